import Derived.Test.YtlaogoehmndcjaaGreatDoorZ39
import Derived.Test.YtlaogoehmndcjaaGreatDoorZ43
import Derived.Test.YtlaogoehmndcjaaGreatDoorZ17
import Derived.Test.YtlaogoehmndcjaaGreatDoorZ19
import Derived.Handy
set_option maxRecDepth 100000
set_option linter.unusedVariables false
set_option maxHeartbeats 1600000
set_option linter.unusedSectionVars false
set_option linter.unusedSimpArgs false
namespace Go.Proofs.YtlaogoehmndcjaaGreatDoor.Sy
open Go RowKit Lib AS Base Pr Ba
noncomputable section
section
variable {A:dU} {τ:Nat→Nat×Nat} {rt:Nat×Nat} {O O':Nat→Prop} {W W':World}
theorem Own.wide (h:Own A τ rt O) (hO:∀b,O b→O' b):Own A τ rt O':=⟨h.r,fun i hi=>hO _ (h.o i hi)⟩
theorem RowK.move {ba:Option Addr} {B:List Nat} (h:RowK W A τ O ba B) (hk:∀b,O b→W'.heap[b]? = W.heap[b]?) (hO:∀b,O b→O' b):RowK W' A τ O' ba B:=fun j x hx=>by
 obtain⟨bb,bo,e,hn,ho,hc⟩:=h j x hx
 exact⟨bb,bo,e,hn,hO _ ho,(bE (hk bb ho)).trans hc⟩
theorem A9.move {cb co:Nat} {xs:List Value} (h:A9 W A τ O cb co xs) (hk:∀b,O b→W'.heap[b]? = W.heap[b]?) (hO:∀b,O b→O' b):A9 W' A τ O' cb co xs:=fun j v hv=>by
 obtain⟨hn,ho,hc⟩:=h j v hv
 exact⟨hn,hO _ ho,(bE (hk cb ho)).trans hc⟩
theorem KQ.move {l:Lg} {B:List Nat} {s:jU} {k:Pr An Ot} {fo sz ix:Int} {wV:Option Addr} {vU abc Ur Uq Px:Nat} (h:KQ l B W A τ O s k fo sz ix wV vU abc Ur Uq Px) (hk:∀b,O b→W'.heap[b]? = W.heap[b]?) (hO:∀b,O b→O' b):KQ l B W' A τ O' s k fo sz ix wV vU abc Ur Uq Px :=
 ⟨h.cu.move hk hO,h.cn,h.i0,h.sp,h.so,h.ss,h.o0,h.nx.imp id fun⟨F,b2,h1,h2,h3,h4,h5,h6⟩=>⟨F,b2,h1,h2,h3,h4,h5.move hk hO,h6⟩⟩
end
theorem OR.move {l:Lg} {B:List Nat} {q:Nat} {p:Pr An Ot} {ka:Option Addr} {W W':World} {rt:Nat×Nat} {O O':Nat→Prop} (h:OR l B q p ka W rt O) (hkk:∀b,O b→W'.heap[b]? = W.heap[b]?) (hO:∀b,O b→O' b):OR l B q p ka W' rt O':=by
 cases h with
 | s0 hS ho hk he hn hr hb hp=>exact .s0 (hS.keep fun i hi=>hkk _ (ho.o i hi)) (ho.wide hO) hk he hn (hr.move hkk hO) hb hp
 | s1 hS ho hk he hn hr hb hp=>exact .s1 (hS.keep fun i hi=>hkk _ (ho.o i hi)) (ho.wide hO) hk he hn (hr.move hkk hO) hb hp
 | s2 hS ho hk he hc hn hr hb hp=>exact .s2 (hS.keep fun i hi=>hkk _ (ho.o i hi)) (ho.wide hO) hk he hc hn (hr.move hkk hO) hb hp
 | s3 hS ho he hp=>exact .s3 (hS.keep fun i hi=>hkk _ (ho.o i hi)) (ho.wide hO) he hp
 | s4 hS ho he ha hz hpt hn hr hb hc hcn hp=>exact .s4 (hS.keep fun i hi=>hkk _ (ho.o i hi)) (ho.wide hO) he ha hz hpt hn (hr.move hkk hO) hb (hc.move hkk hO) hcn hp
 | s5 hS ho he ha hk hb1 hr hd hat hlen hka hp=>exact .s5 (hS.keep fun i hi=>hkk _ (ho.o i hi)) (ho.wide hO) he ha (hk.move hkk hO) hb1 (hr.move hkk hO) hd hat hlen hka hp
 | s6 hS ho he hp=>exact .s6 (hS.keep fun i hi=>hkk _ (ho.o i hi)) (ho.wide hO) he hp
 | s7 hS ho hrc hrn he iP hp=>exact .s7 (hS.keep fun i hi=>hkk _ (ho.o i hi)) (ho.wide hO) hrc hrn he iP hp
 | s8 hS ho he ha hk hat hlen hka hp=>exact .s8 (hS.keep fun i hi=>hkk _ (ho.o i hi)) (ho.wide hO) he ha hk hat hlen hka hp
 | s9 hS ho he ha hk hb1 hr hd hat hlen hka hp=>exact .s9 (hS.keep fun i hi=>hkk _ (ho.o i hi)) (ho.wide hO) he ha (hk.move hkk hO) hb1 (hr.move hkk hO) hd hat hlen hka hp
 | s10 hS ho hrc hrn he hf iP hp=>exact .s10 (hS.keep fun i hi=>hkk _ (ho.o i hi)) (ho.wide hO) hrc hrn he hf iP hp
 | s11 hS ho he ha hk hat hlen hka hp=>exact .s11 (hS.keep fun i hi=>hkk _ (ho.o i hi)) (ho.wide hO) he ha hk hat hlen hka hp
 | s12 hS ho he ha hk hb1 hr hd hat hlen hka hp=>exact .s12 (hS.keep fun i hi=>hkk _ (ho.o i hi)) (ho.wide hO) he ha (hk.move hkk hO) hb1 (hr.move hkk hO) hd hat hlen hka hp
 | s13 hS ho hrc hrn he hf iP hp=>exact .s13 (hS.keep fun i hi=>hkk _ (ho.o i hi)) (ho.wide hO) hrc hrn he hf iP hp
 | G9 hS ho hrc hrn he iP hp=>exact .G9 (hS.keep fun i hi=>hkk _ (ho.o i hi)) (ho.wide hO) hrc hrn he iP hp
 | s15 hS ho he ha hk hat hlen hka hp=>exact .s15 (hS.keep fun i hi=>hkk _ (ho.o i hi)) (ho.wide hO) he ha hk hat hlen hka hp
 | s16 hS ho he ha hk hb1 hr hd hat hlen hka hp=>exact .s16 (hS.keep fun i hi=>hkk _ (ho.o i hi)) (ho.wide hO) he ha (hk.move hkk hO) hb1 (hr.move hkk hO) hd hat hlen hka hp
 | G8 hS ho he hp=>exact .G8 (hS.keep fun i hi=>hkk _ (ho.o i hi)) (ho.wide hO) he hp
 | La hS ho he ha hk hat hlen hka hp=>exact .La (hS.keep fun i hi=>hkk _ (ho.o i hi)) (ho.wide hO) he ha hk hat hlen hka hp
 | Gz hS ho he ha hk hp=>exact .Gz (hS.keep fun i hi=>hkk _ (ho.o i hi)) (ho.wide hO) he ha (hk.move hkk hO) hp
 | s20 hS ho he ha hkb hk hb1 hr hd IC hat hlen hp=>exact .s20 (hS.keep fun i hi=>hkk _ (ho.o i hi)) (ho.wide hO) he ha hkb (hk.move hkk hO) hb1 (hr.move hkk hO) hd IC hat hlen hp
 | G7 hS ho he ha hk hp=>exact .G7 (hS.keep fun i hi=>hkk _ (ho.o i hi)) (ho.wide hO) he ha hk hp
 | JE hS ho hp=>exact .JE (hS.keep fun i hi=>hkk _ (ho.o i hi)) (ho.wide hO) hp
 | Gy hS ho he hp=>exact .Gy (hS.keep fun i hi=>hkk _ (ho.o i hi)) (ho.wide hO) he hp
theorem CR.move {l:Lg} {B:List Nat} {aW:Bool} {q:Nat} {p:Pr An Ot} {ka:Option Addr} {W W':World} {rt:Nat×Nat} {O O':Nat→Prop} (h:CR l B aW q p ka W rt O) (hkk:∀b,O b→W'.heap[b]? = W.heap[b]?) (hO:∀b,O b→O' b):CR l B aW q p ka W' rt O':=by
 cases h with
 | s0 hS ho hk he hz hn hr hb hp=>exact .s0 (hS.keep fun i hi=>hkk _ (ho.o i hi)) (ho.wide hO) hk he hz hn (hr.move hkk hO) hb hp
 | s1 hS ho hk he hz hn hr hb hp=>exact .s1 (hS.keep fun i hi=>hkk _ (ho.o i hi)) (ho.wide hO) hk he hz hn (hr.move hkk hO) hb hp
 | s2 hS ho hk he hz hc hn hr hb hp=>exact .s2 (hS.keep fun i hi=>hkk _ (ho.o i hi)) (ho.wide hO) hk he hz hc hn (hr.move hkk hO) hb hp
 | s3 hS ho he hz hp=>exact .s3 (hS.keep fun i hi=>hkk _ (ho.o i hi)) (ho.wide hO) he hz hp
 | s4 hS ho hk he hz hpt hn hr hb hp=>exact .s4 (hS.keep fun i hi=>hkk _ (ho.o i hi)) (ho.wide hO) hk he hz hpt hn (hr.move hkk hO) hb hp
 | s5 hS ho he ha hso hr hb hat hlen hka hp=>exact .s5 (hS.keep fun i hi=>hkk _ (ho.o i hi)) (ho.wide hO) he ha hso (hr.move hkk hO) hb hat hlen hka hp
 | s6 hS ho hp=>exact .s6 (hS.keep fun i hi=>hkk _ (ho.o i hi)) (ho.wide hO) hp
 | s7 hS ho hrc hrn hre iP hp=>exact .s7 (hS.keep fun i hi=>hkk _ (ho.o i hi)) (ho.wide hO) hrc hrn hre iP hp
 | s8 hS ho he ha hat hlen hka hp=>exact .s8 (hS.keep fun i hi=>hkk _ (ho.o i hi)) (ho.wide hO) he ha hat hlen hka hp
 | s9 hS ho he ha hso hr hb hat hlen hka hp=>exact .s9 (hS.keep fun i hi=>hkk _ (ho.o i hi)) (ho.wide hO) he ha hso (hr.move hkk hO) hb hat hlen hka hp
 | s10 hS ho hrc hrn hre hf iP hp=>exact .s10 (hS.keep fun i hi=>hkk _ (ho.o i hi)) (ho.wide hO) hrc hrn hre hf iP hp
 | s11 hS ho he ha hat hlen hka hp=>exact .s11 (hS.keep fun i hi=>hkk _ (ho.o i hi)) (ho.wide hO) he ha hat hlen hka hp
 | s12 hS ho he ha hso hr hb hat hlen hka hp=>exact .s12 (hS.keep fun i hi=>hkk _ (ho.o i hi)) (ho.wide hO) he ha hso (hr.move hkk hO) hb hat hlen hka hp
 | s13 hS ho hrc hrn hre hf iP hp=>exact .s13 (hS.keep fun i hi=>hkk _ (ho.o i hi)) (ho.wide hO) hrc hrn hre hf iP hp
 | G9 hS ho hrc hrn hre iP hp=>exact .G9 (hS.keep fun i hi=>hkk _ (ho.o i hi)) (ho.wide hO) hrc hrn hre iP hp
 | s15 hS ho he ha hat hlen hka hp=>exact .s15 (hS.keep fun i hi=>hkk _ (ho.o i hi)) (ho.wide hO) he ha hat hlen hka hp
 | s16 hS ho he ha hso hr hb hat hlen hka hp=>exact .s16 (hS.keep fun i hi=>hkk _ (ho.o i hi)) (ho.wide hO) he ha hso (hr.move hkk hO) hb hat hlen hka hp
 | G8 hS ho hp=>exact .G8 (hS.keep fun i hi=>hkk _ (ho.o i hi)) (ho.wide hO) hp
 | La hS ho he ha hat hlen hka hp=>exact .La (hS.keep fun i hi=>hkk _ (ho.o i hi)) (ho.wide hO) he ha hat hlen hka hp
 | Gz hS ho he ha hso hp=>exact .Gz (hS.keep fun i hi=>hkk _ (ho.o i hi)) (ho.wide hO) he ha hso hp
 | s20 hS ho he ha hso hat hlen hp=>exact .s20 (hS.keep fun i hi=>hkk _ (ho.o i hi)) (ho.wide hO) he ha hso hat hlen hp
 | G7 hS ho he ha hkb hso hb1 hr hd IC hat hlen hp=>exact .G7 (hS.keep fun i hi=>hkk _ (ho.o i hi)) (ho.wide hO) he ha hkb hso hb1 (hr.move hkk hO) hd IC hat hlen hp
 | JE hS ho he ha hp=>exact .JE (hS.keep fun i hi=>hkk _ (ho.o i hi)) (ho.wide hO) he ha hp
 | Gy hS ho hp=>exact .Gy (hS.keep fun i hi=>hkk _ (ho.o i hi)) (ho.wide hO) hp
abbrev kT:dU:=[(142,[.int .i64 0,.int .i64 0,.int .i64 0,.int .u64 0,.int .u64 0,.slice none 0 0,.nilFunc])]
theorem wn1 {D:Nat→Value}  {w:World} {τ:Nat→Nat×Nat} (hS:ah w D kT τ) (hD:((List.range 7).all fun i=>(D i).oneCell')=true:=by kernel_rfl):Calls Tryz.prog 43 #[.pointer (some ⟨(τ 0).1,(τ 0).2+0,none⟩)] w fun e w'=>e =.returned (im D bI (.tuple #[.agg #[.int .i64 0,.int .i64 0,.int .i64 0,.int .u64 0,.int .u64 0,.slice none 0 0],.bool false]))∧ah w' D kT τ∧bK kT τ w kT τ w':=by
 letI:bH:=⟨D⟩
 exact iJ 7 (R:=[]) (pl:=[]) (Tw:=fun _=>True) [43] [3,31,32,34,49,95,142,171] [.pointer (some ⟨0,0,none⟩)] (.tuple #[.agg #[.int .i64 0,.int .i64 0,.int .i64 0,.int .u64 0,.int .u64 0,.slice none 0 0],.bool false]) (gn) qn (fun _ _=>trivial) hS hD
abbrev Jt:dU:=[(142,[.int .i64 0,.int .i64 0,.int .i64 0,.int .u64 0,.int .u64 0,.slice none 0 0,.nilFunc])]
theorem ws1 {D:Nat→Value}  {w:World} {τ:Nat→Nat×Nat} (hS:ah w D Jt τ) (hD:((List.range 7).all fun i=>(D i).oneCell')=true:=by kernel_rfl):Calls Tryz.prog 289 #[.pointer (some ⟨(τ 0).1,(τ 0).2+0,none⟩)] w fun e w'=>e =.returned (im D bI (.tuple #[.agg #[.int .i64 0,.int .i32 0,.int .i64 0,.int .i64 0],.bool false]))∧ah w' D Jt τ∧bK Jt τ w Jt τ w':=by
 letI:bH:=⟨D⟩
 exact iJ 7 (R:=[]) (pl:=[]) (Tw:=fun _=>True) [289] [2,3,21,39,142] [.pointer (some ⟨0,0,none⟩)] (.tuple #[.agg #[.int .i64 0,.int .i32 0,.int .i64 0,.int .i64 0],.bool false]) (gn) qn (fun _ _=>trivial) hS hD
abbrev Jy:dU:=[(142,[.int .i64 0,.int .i64 0,.int .i64 0,.int .u64 0,.int .u64 0,.slice none 0 0,.nilFunc])]
theorem wr1 {D:Nat→Value}  {w:World} {τ:Nat→Nat×Nat} (hS:ah w D Jy τ) (hD:((List.range 7).all fun i=>(D i).oneCell')=true:=by kernel_rfl):Calls Tryz.prog 288 #[.pointer (some ⟨(τ 0).1,(τ 0).2+0,none⟩)] w fun e w'=>e =.returned (im D bI (.tuple #[.int .i64 0,.int .i64 1]))∧ah w' D Jy τ∧bK Jy τ w Jy τ w':=by
 letI:bH:=⟨D⟩
 exact iJ 7 (R:=[]) (pl:=[]) (Tw:=fun _=>True) [288] [142] [.pointer (some ⟨0,0,none⟩)] (.tuple #[.int .i64 0,.int .i64 1]) (gn) qn (fun _ _=>trivial) hS hD
def Gu {O:Type}:Pr An O→List Nat
 | .ask _ a _=>a.b
 | .done _=>[]
def lQ {A O:Type}:Pr A O→Prop
 | .ask _ _ _=>True
 | .done _=>False
theorem OR.bytes {l:Lg} {B:List Nat} {q:Nat} {p:Pr An Ot} {ka:Option Addr} {W:World} {rt:Nat×Nat} {O:Nat→Prop} (h:OR l B q p ka W rt O):Gu p≠[]→RowK W [] bI O ka (Gu p):=by
 cases h
 case s20 τ hS ho k b1 f he ha hkb hk hb1 hr hd IC hat hlen hp =>
  obtain⟨f,rfl⟩:∃f',f=f'+1:=⟨f-1,by omega⟩
  subst hp
  intro _
  rw[nK _ _ _ _ _ (fun h=>by rw[h]at hb1;simp at hb1)]
  intro j x hx
  obtain⟨bb,bo,e,_,ho',hc⟩:=(hr.take 8) j x hx
  exact⟨bb,bo,by rw[←hkb.2.2];exact e,fun i hi=>absurd hi (Nat.not_lt_zero _),ho',hc⟩
 all_goals (rename_i hp;subst hp;exact fun h=>absurd rfl h)
theorem CR.bytes {l:Lg} {B:List Nat} {aW:Bool} {q:Nat} {p:Pr An Ot} {ka:Option Addr} {W:World} {rt:Nat×Nat} {O:Nat→Prop} (h:CR l B aW q p ka W rt O):Gu p≠[]→RowK W [] bI O ka (Gu p):=by
 cases h
 case G7 τ hS ho b1 f he ha hkb hso hb1 hr hd IC hat hlen hp =>
  obtain⟨f,rfl⟩:∃f',f=f'+1:=⟨f-1,by omega⟩
  subst hp
  intro _
  rw[nK _ _ _ _ _ (fun h=>by rw[h]at hb1;simp at hb1)]
  intro j x hx
  obtain⟨bb,bo,e,_,ho',hc⟩:=(hr.take 8) j x hx
  exact⟨bb,bo,by rw[←hkb.2.2];exact e,fun i hi=>absurd hi (Nat.not_lt_zero _),ho',hc⟩
 all_goals (rename_i hp;subst hp;exact fun h=>absurd rfl h)
def WV {R:Type} (p:Pr An R) (W:World) (O:Nat→Prop) (v:Value):Prop:=match p with
 | .ask _ a _=>∃ba bc,v =.tuple #[Jo a ba bc,.bool true]∧(a.b≠[]→RowK W [] bI O ba a.b)
 | .done _=>v =.tuple #[.agg #[.int .i64 0,.int .i64 0,.int .i64 0,.int .u64 0,.int .u64 0,.slice none 0 0],.bool false]
theorem NV.wv {p:Pr An Ot} {ka:Option Addr} {v:Value} (h:NV p ka v) {W:World} {O:Nat→Prop} (hb:Gu p≠[]→RowK W [] bI O ka (Gu p)):WV p W O v:=by
 cases p with
 | done o=>exact h
 | ask o a k =>
   obtain⟨ba,bc,e,h2⟩:=h
   refine⟨ba,bc,e,fun hne => ?_⟩
   rcases h2 with h2|rfl
   ·exact absurd h2 hne
   ·exact hb hne
theorem WV.move {R:Type} {p:Pr An R} {W W':World} {O O':Nat→Prop} {v:Value} (h:WV p W O v) (hkk:∀b,O b→W'.heap[b]? = W.heap[b]?) (hO:∀b,O b→O' b):WV p W' O' v:=by
 cases p with
 | done o=>exact h
 | ask o a k =>
   obtain⟨ba,bc,e,h2⟩:=h
   exact⟨ba,bc,e,fun hne=>(h2 hne).move hkk hO⟩
inductive AK (l:Lg) (q:Nat) (p:Pr An Ot) (W:World) (rt:Nat×Nat) (O:Nat→Prop):Value→Prop
 | offer {B:List Nat} (hB:∀x∈B,x<256) (hl:B.length≤1000) (ha:lQ p→(B.length:Int)≤l.term/8) (h:ORx l B q p W rt O):AK l q p W rt O (.iface 136 (dS rt))
 | claim {B:List Nat} {aW:Bool} (hl:B.length≤1000) (ha:lQ p→(B.length:Int)≤l.aV) (h:CRx l B aW q p W rt O):AK l q p W rt O (.iface 138 (dS rt))
 | wrong {τ:Nat→Nat×Nat} (hS:ah W (dl []) kT τ) (ho:Own kT τ rt O) (hp:p =.done ⟨bW,false,0,1⟩):AK l q p W rt O (.iface 140 (dS rt))
structure AX (l:Lg) (q:Nat) (p:Pr An Ot) (v:Value) (W:World) (O:Nat→Prop):Prop where
 lt:∀b,O b→b<W.heap.size
 ok:lQ p→l.ok
 ex:∃rt,AK l q p W rt O v
section
variable {l:Lg} {q:Nat} {p:Pr An Ot} {v:Value} {W W':World} {O O':Nat→Prop} {rt:Nat×Nat}
theorem AK.move (h:AK l q p W rt O v) (hkk:∀b,O b→W'.heap[b]? = W.heap[b]?) (hO:∀b,O b→O' b):AK l q p W' rt O' v:=by
 cases h with
 | offer hB hl ha h=>obtain⟨ka,h⟩:=h;exact .offer hB hl ha ⟨ka,h.move hkk hO⟩
 | claim hl ha h=>obtain⟨ka,h⟩:=h;exact .claim hl ha ⟨ka,h.move hkk hO⟩
 | wrong hS ho hp=>exact .wrong (hS.keep fun i hi=>hkk _ (ho.o i hi)) (ho.wide hO) hp
theorem AX.move (h:AX l q p v W O) (hs:W.heap.size≤W'.heap.size) (hkk:∀b,O b→W'.heap[b]? = W.heap[b]?):AX l q p v W' O :=
 ⟨fun b hb=>Nat.lt_of_lt_of_le (h.lt b hb) hs,h.ok,h.ex.imp fun _ hk=>hk.move hkk fun _ h=>h⟩
theorem mM (h:∀b,O b→b<W.heap.size) (hs:W.heap.size≤W'.heap.size):∀b,Grow O W W' b→b<W'.heap.size:=fun b hb=>by
 rcases hb with hb|hb
 ·exact Nat.lt_of_lt_of_le (h b hb) hs
 ·exact hb.2
structure Gx (l:Lg) (q:Nat) (p:Pr An Ot) (v:Value) (W:World) (O:Nat→Prop) (rt:Nat×Nat) (fN fR fS:Nat):Prop where
 next:Calls Tryz.prog fN #[dS rt] W fun e w'=>∃nv,e =.returned nv∧WV p w' (Grow O W w') nv∧jB O W w'∧AX l q p v w' (Grow O W w')
 slot:Calls Tryz.prog fS #[dS rt] W fun e w'=>e =.returned (iq p.obs.s p.obs.has)∧jB O W w'∧AX l q p v w' (Grow O W w')
 result:Calls Tryz.prog fR #[dS rt] W fun e w'=>e =.returned (.tuple #[.int .i64 p.obs.pos,.int .i64 p.obs.e])∧jB O W w'∧AX l q p v w' (Grow O W w')
theorem AX.acts (h:AX l q p v W O):∃rt,(v =.iface 136 (dS rt)∧Gx l q p v W O rt 278 279 280)∨(v =.iface 138 (dS rt)∧Gx l q p v W O rt 282 283 284)∨(v =.iface 140 (dS rt)∧Gx l q p v W O rt 43 288 289):=by
 obtain⟨lt,ok,rt,hk⟩:=h
 cases hk with
 | offer hB hl ha h =>
   obtain⟨ka,h⟩:=h
   have hk:∀w',jB O W w'→OR l _ q p ka w' rt (Grow O W w')→AX l q p (.iface 136 (dS rt)) w' (Grow O W w'):=fun w' hf ho=>⟨mM lt hf.size,ok,rt,.offer hB hl ha ⟨ka,ho⟩⟩
   obtain⟨⟨v1,n1,c1⟩,⟨v2,n2,c2⟩,v3,n3,c3⟩:=h.tells
   subst n2 n3
   refine⟨rt,.inl ⟨rfl,⟨c1.mono ?_,c2.mono ?_,c3.mono ?_⟩⟩⟩
   ·rintro e w' ⟨rfl,hf,ho⟩;exact⟨v1,rfl,n1.wv ho.bytes,hf,hk w' hf ho⟩
   ·rintro e w' ⟨rfl,hf,ho⟩;exact⟨rfl,hf,hk w' hf ho⟩
   ·rintro e w' ⟨rfl,hf,ho⟩;exact⟨rfl,hf,hk w' hf ho⟩
 | @claim B aW hl ha h =>
   obtain⟨ka,h⟩:=h
   have hk:∀w',jB O W w'→CR l B aW q p ka w' rt (Grow O W w')→AX l q p (.iface 138 (dS rt)) w' (Grow O W w'):=fun w' hf ho=>⟨mM lt hf.size,ok,rt,.claim (B:=B) (aW:=aW) hl ha ⟨ka,ho⟩⟩
   obtain⟨⟨v1,n1,c1⟩,⟨v2,n2,c2⟩,v3,n3,c3⟩:=h.tells
   subst n2 n3
   refine⟨rt,.inr (.inl ⟨rfl,⟨c1.mono ?_,c2.mono ?_,c3.mono ?_⟩⟩)⟩
   ·rintro e w' ⟨rfl,hf,ho⟩;exact⟨v1,rfl,n1.wv ho.bytes,hf,hk w' hf ho⟩
   ·rintro e w' ⟨rfl,hf,ho⟩;exact⟨rfl,hf,hk w' hf ho⟩
   ·rintro e w' ⟨rfl,hf,ho⟩;exact⟨rfl,hf,hk w' hf ho⟩
 | wrong hS ho hp =>
   subst hp
   have hr:=ho.r
   subst hr
   have hk:∀w',ah w' (dl []) kT _→bK kT _ W kT _ w'→jB O W w'∧AX l q (.done ⟨bW,false,0,1⟩) _ w' (Grow O W w'):=fun w' h1 h2=>⟨ho.jL h2,mM lt (ho.jL h2).size,ok,_,.wrong h1 (ho.step h2 rfl h1) rfl⟩
   refine⟨_,.inr (.inr ⟨rfl,⟨(wn1 hS).mono ?_,(ws1 hS).mono ?_,(wr1 hS).mono ?_⟩⟩)⟩
   ·rintro e w' ⟨rfl,h1,h2⟩;exact⟨_,rfl,rfl,hk w' h1 h2⟩
   ·rintro e w' ⟨rfl,h1,h2⟩;exact⟨rfl,hk w' h1 h2⟩
   ·rintro e w' ⟨rfl,h1,h2⟩;exact⟨rfl,hk w' h1 h2⟩
theorem AX.take (hq:q≤1500) (h:AX l (q+1) p v W O) (ha:lQ p) (x:An) (hV:0≤x.v∧x.v<18446744073709551616) {xa:Option Addr} {xn xc:Nat}:∃rt,(v =.iface 136 (dS rt)∧Calls Tryz.prog 281 #[dS rt,.agg #[.int .u64 x.v,.bool x.dn,.slice xa xn xc]] W fun e w'=>e =.returned (.tuple #[])∧jB O W w'∧AX l q (wB p x) v w' (Grow O W w'))∨(v =.iface 138 (dS rt)∧Calls Tryz.prog 285 #[dS rt,.agg #[.int .u64 x.v,.bool x.dn,.slice xa xn xc]] W fun e w'=>e =.returned (.tuple #[])∧jB O W w'∧AX l q (wB p x) v w' (Grow O W w')):=by
 obtain⟨lt,ok,rt,hk⟩:=h
 have hl:=ok ha
 cases hk with
 | offer hB hn hb h =>
   obtain⟨ka,h⟩:=h
   refine⟨rt,.inl ⟨rfl,(h.take hl hB ⟨hn,hb ha⟩ hq x hV).mono ?_⟩⟩
   rintro e w' ⟨rfl,hf,ho⟩
   exact⟨rfl,hf,mM lt hf.size,fun _=>hl,rt,.offer hB hn (fun _=>hb ha) ho⟩
 | @claim B aW hn hb h =>
   obtain⟨ka,h⟩:=h
   refine⟨rt,.inr ⟨rfl,(h.take hl ⟨hn,hb ha⟩ hq x hV).mono ?_⟩⟩
   rintro e w' ⟨rfl,hf,ho⟩
   exact⟨rfl,hf,mM lt hf.size,fun _=>hl,rt,.claim (B:=B) (aW:=aW) hn (fun _=>hb ha) ho⟩
 | wrong hS ho hp=>subst hp;exact absurd ha id
theorem J9 {W W':World}:∀b,Made W W' b→b<W'.heap.size:=fun b hb=>by
 rcases hb with hb|hb
 ·exact absurd hb id
 ·exact hb.2
theorem Hz (hw:l.wf) {B:List Nat} (hB:∀x∈B,x<256) {ba:Option Addr} {bc:Nat} (hbn:B.length≤1000) (h1:1≤W.heap.size) (hr:∀w',Below W.heap.size W w'→fK w' ba B) :
 Calls Tryz.prog 57 #[l.val,.slice ba B.length bc] W fun e w'=>∃rt,e =.returned (dS rt)∧Below W.heap.size W w'∧∀q,AX l q (fZ (aP l) B) (.iface 136 (dS rt)) w' (Made W w'):=by
 refine(E8 hw hB hbn h1 hr).mono ?_
 rintro e w' ⟨rt,rfl,hb,ho⟩
 refine⟨rt,rfl,hb,fun q=>⟨J9,fun ha => ?_,rt,.offer hB hbn (fun ha => ?_) (ho q)⟩⟩
 ·by_cases hl:l.ok
  ·exact hl
  ·unfold fZ at ha
   rw[if_pos (show ¬(aP l).ok from hl)]at ha
   exact absurd ha id
 ·by_cases hl:(B.length:Int)≤l.term/8
  ·exact hl
  ·unfold fZ at ha
   split at ha
   ·exact absurd ha id
   ·rw[if_pos (show(B.length:Int)>(aP l).term/8 from Int.not_le.1 hl)]at ha
    exact absurd ha id
theorem Al (hw:l.wf) {B:List Nat} {aW:Bool} (hB:∀x∈B,x<256) {ba:Option Addr} {bc:Nat} (hbn:B.length≤1000) (h1:1≤W.heap.size) (hr:∀w',Below W.heap.size W w'→fK w' ba B) :
 Calls Tryz.prog 58 #[l.val,.slice ba B.length bc,.bool aW] W fun e w'=>∃rt,e =.returned (dS rt)∧Below W.heap.size W w'∧∀q,AX l q (eD (aP l) B aW) (.iface 138 (dS rt)) w' (Made W w'):=by
 refine(F5 hw hB hbn h1 hr).mono ?_
 rintro e w' ⟨rt,rfl,hb,ho⟩
 refine⟨rt,rfl,hb,fun q=>⟨J9,fun ha => ?_,rt,.claim (B:=B) (aW:=aW) hbn (fun ha => ?_) (ho q)⟩⟩
 ·by_cases hl:l.ok
  ·exact hl
  ·unfold eD at ha
   rw[if_pos (show ¬(aP l).ok from hl)]at ha
   exact absurd ha id
 ·by_cases hl:(B.length:Int)≤l.aV
  ·exact hl
  ·unfold eD at ha
   split at ha
   ·exact absurd ha id
   ·rw[if_pos (show(B.length:Int)>(aP l).aV from Int.not_le.1 hl)]at ha
    exact absurd ha id
end
end
end Go.Proofs.YtlaogoehmndcjaaGreatDoor.Sy
namespace Go.Proofs.YtlaogoehmndcjaaGreatDoor.Sy
open Go RowKit Lib AS Base Pr Ba
def ji (b:Nat) (now:Value) (going:Bool) (l:Lg) (left:Value) (tries n:Int) (dn:Value):Array Value :=#[now,.func (.func 29) #[.pointer (some ⟨b,0,none⟩)] #[],.func (.func 30) #[.pointer (some ⟨b,0,none⟩)] #[],.bool going,.int .i64 l.base,.int .i64 l.term,.int .i64 l.aV,.int .i64 l.subs,.int .i32 l.bG,.int .i32 l.dQ,.int .i32 l.str,left,.int .i64 tries,.int .i64 n,dn]
theorem eH {w:World} {b:Nat} {t:TypeId} {v0 v1 v2 v3 v4 v5 v6 v7 v8 v9 v10 v11 v12 v13 v14:Value} (h:w.heap[b]? = some (.cells #[v0,v1,v2,v3,v4,v5,v6,v7,v8,v9,v10,v11,v12,v13,v14] t (0,0))):w.cell? ⟨b,0,none⟩=some v0∧w.cell? ⟨b,1,none⟩=some v1∧w.cell? ⟨b,2,none⟩=some v2∧w.cell? ⟨b,3,none⟩=some v3∧w.cell? ⟨b,4,none⟩=some v4∧w.cell? ⟨b,5,none⟩=some v5∧w.cell? ⟨b,6,none⟩=some v6∧w.cell? ⟨b,7,none⟩=some v7∧w.cell? ⟨b,8,none⟩=some v8∧w.cell? ⟨b,9,none⟩=some v9∧w.cell? ⟨b,10,none⟩=some v10∧w.cell? ⟨b,11,none⟩=some v11∧w.cell? ⟨b,12,none⟩=some v12∧w.cell? ⟨b,13,none⟩=some v13∧w.cell? ⟨b,14,none⟩=some v14∧(w.frozen? ⟨b,0,none⟩=false∧w.frozen? ⟨b,3,none⟩=false∧w.frozen? ⟨b,11,none⟩=false∧w.frozen? ⟨b,12,none⟩=false∧w.frozen? ⟨b,13,none⟩=false∧w.frozen? ⟨b,14,none⟩=false):=by
 refine⟨?_,?_,?_,?_,?_,?_,?_,?_,?_,?_,?_,?_,?_,?_,?_,?_,?_,?_,?_,?_,?_⟩<;>simp[World.cell?,World.frozen?,h]
theorem WV.form {R:Type} {p:Pr An R} {W:World} {O:Nat→Prop} {nv:Value} (h:WV p W O nv):∃(k a n v u:Int) (ba:Option Addr) (bn bc:Nat) (t:Bool),nv =.tuple #[.agg #[.int .i64 k,.int .i64 a,.int .i64 n,.int .u64 v,.int .u64 u,.slice ba bn bc],.bool t]:=by
 cases p with
 | done o=>exact⟨_,_,_,_,_,_,_,_,_,h⟩
 | ask o a k=>obtain⟨ba,bc,e,_⟩:=h;exact⟨_,_,_,_,_,_,_,_,_,e⟩
theorem yz {w:World} {b:Nat} {t:TypeId} {v0 v1 v2 v3 v4 v5:Value} (h:w.heap[b]? = some (.cells #[v0,v1,v2,v3,v4,v5] t (0,0))):w.cell? ⟨b,0,none⟩=some v0∧w.cell? ⟨b,1,none⟩=some v1∧w.cell? ⟨b,2,none⟩=some v2∧w.cell? ⟨b,3,none⟩=some v3∧w.cell? ⟨b,4,none⟩=some v4∧w.cell? ⟨b,5,none⟩=some v5∧w.frozen? ⟨b,0,none⟩=false∧w.frozen? ⟨b,1,none⟩=false∧w.frozen? ⟨b,2,none⟩=false∧w.frozen? ⟨b,3,none⟩=false∧w.frozen? ⟨b,4,none⟩=false∧w.frozen? ⟨b,5,none⟩=false:=by
 refine⟨?_,?_,?_,?_,?_,?_,?_,?_,?_,?_,?_,?_⟩<;>simp[World.cell?,World.frozen?,h]
section
variable {l:Lg} {q:Nat} {p:Pr An Ot} {now:Value} {O:Nat→Prop}
theorem BM {X:Nat} (x:World) (v0 v1 v2 v3 v4 v5:Value):Only X x ((((((x.setCell ⟨X,0,none⟩ v0).setCell ⟨X,1,none⟩ v1).setCell ⟨X,2,none⟩ v2).setCell ⟨X,3,none⟩ v3).setCell ⟨X,4,none⟩ v4).setCell ⟨X,5,none⟩ v5) :=
 (((((Only.set _ _ _).trans (Only.set _ _ _)).trans (Only.set _ _ _)).trans (Only.set _ _ _)).trans (Only.set _ _ _)).trans (Only.set _ _ _)
theorem gW {w:World} {b:Nat} {C C':Array Value} {t:TypeId} (h:w.heap[b]? = some (.cells C t (0,0))) (j:Nat) (u:Value) (hC:C.setIfInBounds j u=C':=by rfl):(w.setCell ⟨b,j,none⟩ u).heap[b]? = some (.cells C' t (0,0)):=by
 obtain⟨hlt,hk⟩:=Array.getElem?_eq_some_iff.1 h
 subst hC
 show(w.heap.modify b _)[b]? = _
 rw[Array.getElem?_eq_getElem (by rw[Array.size_modify];exact hlt),Array.getElem_modify_self,hk]
 rfl
theorem K5 {w:World} {b:Nat} {t:TypeId} {v0 v1 v2 v3 v4 v5:Value} (h:w.heap[b]? = some (.cells #[v0,v1,v2,v3,v4,v5] t (0,0))) (u0 u1 u2 u3 u4 u5:Value):((((((w.setCell ⟨b,0,none⟩ u0).setCell ⟨b,1,none⟩ u1).setCell ⟨b,2,none⟩ u2).setCell ⟨b,3,none⟩ u3).setCell ⟨b,4,none⟩ u4).setCell ⟨b,5,none⟩ u5).heap[b]? = some (.cells #[u0,u1,u2,u3,u4,u5] t (0,0)) :=
 gW (gW (gW (gW (gW (gW h 0 u0) 1 u1) 2 u2) 3 u3) 4 u4) 5 u5
end
def xL (W:World) (K:Nat→Prop) (v:Value) (ops:List gz):Prop:=∃la ln lc,v =.slice la ln lc∧ln=ops.length∧ln≤lc∧∀(j:Nat) (o:gz),ops[j]? = some o→∃g go ba bc,la=some ⟨g,go,none⟩∧K g∧W.cell? ⟨g,go+2*j,none⟩=some (.int .i64 o.kind)∧W.cell? ⟨g,go+2*j+1,none⟩=some (.slice ba o.data.length bc)∧RowK W [] bI K ba o.data
theorem xL.move {W W':World} {K K':Nat→Prop} {v:Value} {ops:List gz} (h:xL W K v ops) (hkk:∀b,K b→b<W.heap.size→W'.heap[b]? = W.heap[b]?) (hK:∀b,K b→b<W.heap.size→K' b):xL W' K' v ops:=by
 obtain⟨la,ln,lc,e,h1,h2,h3⟩:=h
 refine⟨la,ln,lc,e,h1,h2,fun j o hj => ?_⟩
 obtain⟨g,go,ba,bc,e1,hg,c1,c2,hr⟩:=h3 j o hj
 have hl:=World.block_lt_of_cell? W _ c1
 refine⟨g,go,ba,bc,e1,hK g hg hl,(bE (hkk g hg hl)).trans c1,(bE (hkk g hg hl)).trans c2,fun i x hx => ?_⟩
 obtain⟨bb,bo,e2,hn,hb,hc⟩:=hr i x hx
 have hl2:=World.block_lt_of_cell? W _ hc
 exact⟨bb,bo,e2,hn,hK bb hb hl2,(bE (hkk bb hb hl2)).trans hc⟩
def uE (s:ng):List Value:=[.int .i64 s.pos,.int .i64 s.e,.int .i64 s.tries,.int .i64 s.s.part,.int .i32 s.s.term,.int .i64 s.s.off,.int .i64 s.s.size,.bool s.has]
theorem qa {w w':World} {e:TypeId} {size n:Nat} {v:Value} {xs:List Value} (h:w.ownsRow 0 e size v n xs) (hk:∀g,v.ownBlock=some g→w'.heap[g]? = w.heap[g]?):w'.ownsRow 0 e size v n xs:=by
 refine⟨h.1,?_⟩
 rcases h.2 with h1|⟨g,cap,cur,rfl,hb,hg,r⟩
 ·exact .inl h1
 ·exact .inr ⟨g,cap,cur,rfl,hb,(hk g rfl).trans hg,r⟩
structure RX (W:World) (b:Nat) (K OA:Nat→Prop) (left dn:Value) (ops:List gz) (out:List ng):Prop where
 left:xL W (fun k=>K k∧k≠b∧¬OA k∧dn.ownBlock≠some k) left ops
 row:W.ownsRow 0 78 8 dn out.length (out.flatMap uE)
 own:∀k,dn.ownBlock=some k→K k∧k≠b∧¬OA k
structure WX (l:Lg) (q:Nat) (W:World) (b:Nat) (K:Nat→Prop) (g:Bool) (p:Pr An Ot) (ops:List gz) (tries n:Int) (out:List ng):Prop where
 lt:∀k,K k→k<W.heap.size
 kb:K b
 ex:∃now left dn OA,W.heap[b]? = some (.cells (ji b now g l left tries n dn) 89)∧(g=true→AX l q p now W OA)∧(∀k,OA k→K k∧k≠b)∧RX W b K OA left dn ops out
section
variable {l:Lg} {q q':Nat} {W W':World} {b:Nat} {K:Nat→Prop} {p p':Pr An Ot} {ops:List gz} {tries n:Int} {out:List ng} {now left dn:Value} {OA O':Nat→Prop}
theorem RX.jN (h:RX W b K OA left dn ops out) (hlt:∀k,K k→k<W.heap.size) (hf:jB OA W W') (hO:∀k,O' k→OA k∨W.heap.size≤k):RX W' b (fun k=>K k∨O' k) O' left dn ops out:=by
 have hn:∀k,k<W.heap.size→¬OA k→¬O' k:=fun k hk hn ho=>by
  rcases hO k ho with h1|h1
  ·exact hn h1
  ·omega
 refine⟨h.left.move (fun k hk hl=>hf.block k hl hk.2.2.1) fun k hk hl=>⟨.inl hk.1,hk.2.1,hn k hl hk.2.2.1,hk.2.2.2⟩,qa h.row fun g hg => ?_,fun k hk => ?_⟩
 ·obtain⟨h1,h2,h3⟩:=h.own g hg
  exact hf.block g (hlt g h1) h3
 ·obtain⟨h1,h2,h3⟩:=h.own k hk
  exact⟨.inl h1,h2,hn k (hlt k h1) h3⟩
structure WK (K:Nat→Prop) (W W':World) (K':Nat→Prop):Prop where
 jL:jB K W W'
 new:∀k,K' k→K k∨W.heap.size≤k
theorem jB.wide {O O2:Nat→Prop} {w w':World} (h:jB O w w') (hO:∀k,O k→O2 k):jB O2 w w':=⟨h.os,h.tape,h.output,h.size,fun k hk hn=>h.block k hk fun ho=>hn (hO k ho)⟩
theorem jB.of_below {O:Nat→Prop} {w w':World} (h:Below w.heap.size w w'):jB O w w':=⟨h.os,h.tape,h.output,h.size,fun k hk _=>h.block k hk⟩
theorem WK.trans {K K1 K2:Nat→Prop} {W W1 W2:World} (h:WK K W W1 K1) (k:WK K1 W1 W2 K2):WK K W W2 K2 :=
 ⟨⟨k.jL.os.trans h.jL.os,k.jL.tape.trans h.jL.tape,k.jL.output.trans h.jL.output,Nat.le_trans h.jL.size k.jL.size,fun x hx hn=>(k.jL.block x (Nat.lt_of_lt_of_le hx h.jL.size) fun hk=>by
    rcases h.new x hk with h1|h1
    ·exact hn h1
    ·omega).trans (h.jL.block x hx hn)⟩,
  fun x hx=>by
   rcases k.new x hx with h1|h1
   ·exact h.new x h1
   ·exact .inr (Nat.le_trans h.jL.size h1)⟩
theorem WK.below {K:Nat→Prop} {W W':World} (h:Below W.heap.size W W'):WK K W W' K:=⟨.of_below h,fun k hk => .inl hk⟩
theorem jN (hlt:∀k,K k→k<W.heap.size) (kb:K b) (hT:W.heap[b]? = some (.cells (ji b now true l left tries n dn) 89)) (ho:∀k,OA k→K k∧k≠b) (hr:RX W b K OA left dn ops out) (hf:jB OA W W') (hO:∀k,O' k→OA k∨W.heap.size≤k) (ha:AX l q' p' now W' O') :
 WX l q' W' b (fun k=>K k∨O' k) true p' ops tries n out∧WK K W W' (fun k=>K k∨O' k):=by
 refine⟨⟨fun k hk => ?_,.inl kb,now,left,dn,O',(hf.block b (hlt b kb) fun h=>(ho b h).2 rfl).trans hT,fun _=>ha,fun k hk=>⟨.inr hk,fun e => ?_⟩,hr.jN hlt hf hO⟩,⟨hf.wide fun k hk=>(ho k hk).1,fun k hk => ?_⟩⟩
 ·rcases hk with hk|hk
  ·exact Nat.lt_of_lt_of_le (hlt k hk) hf.size
  ·exact ha.lt k hk
 ·subst e
  rcases hO k hk with h1|h1
  ·exact(ho k h1).2 rfl
  ·have:=hlt k kb;omega
 ·rcases hk with hk|hk
  ·exact .inl hk
  ·exact(hO k hk).imp (fun h=>(ho k h).1) id
theorem WX.move {g:Bool} (h:WX l q W b K g p ops tries n out) (hs:W.heap.size≤W'.heap.size) (hkk:∀k,K k→W'.heap[k]? = W.heap[k]?):WX l q W' b K g p ops tries n out:=by
 obtain⟨lt,kb,now,left,dn,OA,hT,hA,hO,hr⟩:=h
 refine⟨fun k hk=>Nat.lt_of_lt_of_le (lt k hk) hs,kb,now,left,dn,OA,(hkk b kb).trans hT,fun hg=>(hA hg).move hs fun k hk=>hkk k (hO k hk).1,hO,⟨hr.left.move (fun k hk _=>hkk k hk.1) fun k hk _=>hk,qa hr.row fun g hg=>hkk g (hr.own g hg).1,hr.own⟩⟩
end
