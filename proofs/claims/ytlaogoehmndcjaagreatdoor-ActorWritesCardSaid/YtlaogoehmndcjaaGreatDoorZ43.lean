import Derived.Test.YtlaogoehmndcjaaGreatDoorZ42
import Derived.Test.YtlaogoehmndcjaaGreatDoorZ39
import Derived.Test.YtlaogoehmndcjaaGreatDoorZ37
set_option maxRecDepth 100000
set_option linter.unusedVariables false
set_option linter.unusedSimpArgs false
set_option maxHeartbeats 4000000
set_option linter.unusedSectionVars false
namespace Go.Proofs.YtlaogoehmndcjaaGreatDoor.Sy
open Go RowKit Lib AS Base Pr Ba
noncomputable section
theorem fM {l:Lg} {B:List Nat} {aW:Bool} {q:Nat} {p:Pr An Ot} {ka:Option Addr} {W:World} {rt:Nat×Nat} {O:Nat→Prop} {A:dU} {D:Nat→Value} {τ:Nat→Nat×Nat} (back:∀w',ah w' D A τ→bK A τ W A τ w'→Own A τ rt (Grow O W w')→CR l B aW q p ka w' rt (Grow O W w'))
 (v1:Value) (h1:NV p ka v1) (c1:(∀w',ah w' D A τ→bK A τ W A τ w'→Own A τ rt (Grow O W w')→CR l B aW q p ka w' rt (Grow O W w'))→Calls Tryz.prog 282 #[.pointer (some ⟨rt.1,rt.2+0,none⟩)] W fun e w'=>e =.returned v1∧jB O W w'∧CR l B aW q p ka w' rt (Grow O W w'))
 (v2:Value) (h2:v2=iq p.obs.s p.obs.has) (c2:(∀w',ah w' D A τ→bK A τ W A τ w'→Own A τ rt (Grow O W w')→CR l B aW q p ka w' rt (Grow O W w'))→Calls Tryz.prog 284 #[.pointer (some ⟨rt.1,rt.2+0,none⟩)] W fun e w'=>e =.returned v2∧jB O W w'∧CR l B aW q p ka w' rt (Grow O W w'))
 (v3:Value) (h3:v3 =.tuple #[.int .i64 p.obs.pos,.int .i64 p.obs.e]) (c3:(∀w',ah w' D A τ→bK A τ W A τ w'→Own A τ rt (Grow O W w')→CR l B aW q p ka w' rt (Grow O W w'))→Calls Tryz.prog 283 #[.pointer (some ⟨rt.1,rt.2+0,none⟩)] W fun e w'=>e =.returned v3∧jB O W w'∧CR l B aW q p ka w' rt (Grow O W w')) :
 (∃v,NV p ka v∧Calls Tryz.prog 282 #[.pointer (some ⟨rt.1,rt.2+0,none⟩)] W fun e w'=>e =.returned v∧jB O W w'∧CR l B aW q p ka w' rt (Grow O W w')) ∧
 (∃v,v=iq p.obs.s p.obs.has∧Calls Tryz.prog 284 #[.pointer (some ⟨rt.1,rt.2+0,none⟩)] W fun e w'=>e =.returned v∧jB O W w'∧CR l B aW q p ka w' rt (Grow O W w')) ∧
 (∃v,v =.tuple #[.int .i64 p.obs.pos,.int .i64 p.obs.e]∧Calls Tryz.prog 283 #[.pointer (some ⟨rt.1,rt.2+0,none⟩)] W fun e w'=>e =.returned v∧jB O W w'∧CR l B aW q p ka w' rt (Grow O W w')) :=
 ⟨⟨v1,h1,c1 back⟩,⟨v2,h2,c2 back⟩,⟨v3,h3,c3 back⟩⟩
theorem CR.tells {l:Lg} {B:List Nat} {aW:Bool} {q:Nat} {p:Pr An Ot} {ka:Option Addr} {W:World} {rt:Nat×Nat} {O:Nat→Prop} (h:CR l B aW q p ka W rt O) :
 (∃v,NV p ka v∧Calls Tryz.prog 282 #[.pointer (some ⟨rt.1,rt.2+0,none⟩)] W fun e w'=>e =.returned v∧jB O W w'∧CR l B aW q p ka w' rt (Grow O W w')) ∧
 (∃v,v=iq p.obs.s p.obs.has∧Calls Tryz.prog 284 #[.pointer (some ⟨rt.1,rt.2+0,none⟩)] W fun e w'=>e =.returned v∧jB O W w'∧CR l B aW q p ka w' rt (Grow O W w')) ∧
 (∃v,v =.tuple #[.int .i64 p.obs.pos,.int .i64 p.obs.e]∧Calls Tryz.prog 283 #[.pointer (some ⟨rt.1,rt.2+0,none⟩)] W fun e w'=>e =.returned v∧jB O W w'∧CR l B aW q p ka w' rt (Grow O W w')):=by
 cases h with
 | s0 hS ho hk he hz hn hr hb hp =>
   rename_i aO kn kv kw dm cz dA bY bJ bX part bg off size pos ee nd Mt τ
   subst hp
   exact fM (fun w' hS' hm ho2 => .s0 hS' ho2 hk he hz hn (hr.step hm) hb rfl) (qj 1 aO kn kv kw (dm) (cz) (dA)) (NV.oJ) (aM hS ho [0] (fun cB h=>GD (hS:=h))) (nu part bg off size false) (by rw[hz.1,hz.2.1,hz.2.2.1,hz.2.2.2];rfl) (aM hS ho [0] (fun cB h=>cs1 (hS:=h))) (ny pos ee) (by rw[he.1,he.2];first|rfl|(rw[dB hb1.2.1];rfl)) (aM hS ho [0] (fun cB h=>EC (hS:=h)))
 | s1 hS ho hk he hz hn hr hb hp =>
   rename_i aO kn kv kw dm cz dA bY bJ bX part bg off size pos ee lim nd Mt τ
   subst hp
   exact fM (fun w' hS' hm ho2 => .s1 hS' ho2 hk he hz hn (hr.step hm) hb rfl) (qj 1 aO kn kv kw (dm) (cz) (dA)) (NV.oJ) (aM hS ho [0] (fun cB h=>GD (hS:=h))) (nu part bg off size false) (by rw[hz.1,hz.2.1,hz.2.2.1,hz.2.2.2];rfl) (aM hS ho [0] (fun cB h=>cs1 (hS:=h))) (ny pos ee) (by rw[he.1,he.2];first|rfl|(rw[dB hb1.2.1];rfl)) (aM hS ho [0] (fun cB h=>EC (hS:=h)))
 | s2 hS ho hk he hz hc hn hr hb hp =>
   rename_i aO kn kv kw dm cz dA bY bJ bX part bg off size pos ee cn lim nd Mt τ
   subst hp
   exact fM (fun w' hS' hm ho2 => .s2 hS' ho2 hk he hz hc hn (hr.step hm) hb rfl) (qj 1 aO kn kv kw (dm) (cz) (dA)) (NV.oJ) (aM hS ho [0] (fun cB h=>GD (hS:=h))) (nu part bg off size false) (by rw[hz.1,hz.2.1,hz.2.2.1,hz.2.2.2];rfl) (aM hS ho [0] (fun cB h=>cs1 (hS:=h))) (ny pos ee) (by rw[he.1,he.2];first|rfl|(rw[dB hb1.2.1];rfl)) (aM hS ho [0] (fun cB h=>EC (hS:=h)))
 | s3 hS ho he hz hp =>
   rename_i aO kn kv kw dm cz dA bY bJ bX part bg off size pos ee τ
   subst hp
   exact fM (fun w' hS' hm ho2 => .s3 hS' ho2 he hz rfl) (TB) rfl (aM hS ho [0] (fun cB h=>cn2 (hS:=h))) (nu part bg off size false) (by rw[hz.1,hz.2.1,hz.2.2.1,hz.2.2.2];rfl) (aM hS ho [0] (fun cB h=>cs1 (hS:=h))) (ny pos ee) (by rw[he];rfl) (aM hS ho [0] (fun cB h=>EC (hS:=h)))
 | s4 hS ho hk he hz hpt hn hr hb hp =>
   rename_i aO kn kv kw dm cz dA bY bJ bX part bg off size pos ee pt nd τ
   subst hp
   exact fM (fun w' hS' hm ho2 => .s4 hS' ho2 hk he hz hpt hn (hr.step hm) hb rfl) (qj 3 aO kn kv kw (dm) (cz) (dA)) (NV.oJ) (aM hS ho [0] (fun cB h=>GD (hS:=h))) (nu part bg off size false) (by rw[hz.1,hz.2.1,hz.2.2.1,hz.2.2.2];rfl) (aM hS ho [0] (fun cB h=>cs1 (hS:=h))) (ny pos ee) (by rw[he.1,he.2];first|rfl|(rw[dB hb1.2.1];rfl)) (aM hS ho [0] (fun cB h=>EC (hS:=h)))
 | s5 hS ho he ha hso hr hb hat hlen hka hp =>
   rename_i aO kn kv kw dm cz dA bY bJ bX part bg off size pos ee at_ x0 x1 x2 len τ
   subst hp
   exact fM (fun w' hS' hm ho2 => .s5 hS' ho2 he ha hso (hr.step hm) hb hat hlen hka rfl) (qj 2 aO kn kv kw (dm) (cz) (dA)) (NV.oJ) (aM hS ho [0] (fun cB h=>GD (hS:=h))) (nu part bg off size true) rfl (aM hS ho [0] (fun cB h=>cs1 (hS:=h))) (ny pos ee) (by rw[he.1,he.2];first|rfl|(rw[dB hb1.2.1];rfl)) (aM hS ho [0] (fun cB h=>EC (hS:=h)))
 | s6 hS ho hp =>
   rename_i aO kn kv kw dm cz dA bY bJ bX part bg off size pos ee bq bP bM aN az bD τ
   subst hp
   have back:∀w' ,ah w' (dl (Am l aO kn kv kw (.slice (dm) (cz) (dA)) (.slice (bY) (bJ) (bX)) aW part bg off size pos ee bq bP bM aN az bD)) nT τ→bK nT τ W nT τ w'→Own nT τ rt (Grow O W w')→CR l B aW q _ ka w' rt (Grow O W w'):=fun w' hS' hm ho2 => .s6 hS' ho2 rfl
   exact⟨⟨.tuple #[.agg #[.int .i64 0,.int .i64 0,.int .i64 0,.int .u64 0,.int .u64 0,.slice none 0 0],.bool false],rfl,aM hS ho [0,1] (fun cB h=>cn4 (hS:=h)) back⟩,⟨.tuple #[.agg #[.int .i64 part,.int .i32 bg,.int .i64 off,.int .i64 size],.bool true],rfl,aM hS ho [0] (fun cB h=>cs1 (hS:=h)) back⟩,(if e0:bD=0 then⟨.tuple #[.int .i64 0,.int .i64 6],(by show _=Value.tuple #[.int .i64 0,.int .i64 (if _ then _ else _)];rw[if_pos (.inl e0)]),aM hS ho [0,1] (fun cB h=>LQ (re:=bD) (by kernel_rfl) e0 (hS:=h)) back⟩else if e1:bD=5 then⟨.tuple #[.int .i64 0,.int .i64 6],(by show _=Value.tuple #[.int .i64 0,.int .i64 (if _ then _ else _)];rw[if_pos (.inr e1)]),aM hS ho [0,1] (fun cB h=>LP (re:=bD) (by kernel_rfl) e0 e1 (hS:=h)) back⟩else⟨.tuple #[.int .i64 0,.int .i64 bD],(by show _=Value.tuple #[.int .i64 0,.int .i64 (if _ then _ else _)];rw[if_neg (by omega)]),aM hS ho [0,1] (fun cB h=>LM (re:=bD) (by kernel_rfl) e0 e1 (hS:=h)) back⟩)⟩
 | s7 hS ho hrc hrn hre iP hp =>
   rename_i aO kn kv kw dm cz dA bY bJ bX part bg off size pos ee bq bP bM aN az bD τ
   subst hp
   have back:∀w' ,ah w' (dl (Ck l aO kn kv kw (.slice (dm) (cz) (dA)) (.slice (bY) (bJ) (bX)) aW part bg off size pos ee bq bP bM aN az bD)) pK τ→bK pK τ W pK τ w'→Own pK τ rt (Grow O W w')→CR l B aW q _ ka w' rt (Grow O W w'):=fun w' hS' hm ho2 => .s7 hS' ho2 hrc hrn hre iP rfl
   exact⟨⟨.tuple #[.agg #[.int .i64 1,.int .i64 bq,.int .i64 8,.int .u64 bP,.int .u64 bM,.slice none 0 0],.bool true],NV.oJ (by refine⟨?_,?_,?_,?_,?_,?_⟩<;>first|rfl|omega|(simp only[cO.fu,cO.M,aP];omega)|(rw[hrn]at iP;exact iP.2)),aM hS ho [0,1] (fun cB h=>Zf (hS:=h)) back⟩,⟨.tuple #[.agg #[.int .i64 part,.int .i32 bg,.int .i64 off,.int .i64 size],.bool true],rfl,aM hS ho [0] (fun cB h=>cs1 (hS:=h)) back⟩,(if e0:bD=0 then⟨.tuple #[.int .i64 0,.int .i64 6],(by omega),aM hS ho [0,1] (fun cB h=>LQ (re:=bD) (by kernel_rfl) e0 (hS:=h)) back⟩else if e1:bD=5 then⟨.tuple #[.int .i64 0,.int .i64 6],(by omega),aM hS ho [0,1] (fun cB h=>LP (re:=bD) (by kernel_rfl) e0 e1 (hS:=h)) back⟩else⟨.tuple #[.int .i64 0,.int .i64 bD],(by rw[hre];rfl),aM hS ho [0,1] (fun cB h=>LM (re:=bD) (by kernel_rfl) e0 e1 (hS:=h)) back⟩)⟩
 | s8 hS ho he ha hat hlen hka hp =>
   rename_i aO kn kv kw dm cz dA bY bJ bX part bg off size pos ee at_ x0 x1 x2 len τ
   subst hp
   exact fM (fun w' hS' hm ho2 => .s8 hS' ho2 he ha hat hlen hka rfl) (qj 2 aO kn kv kw (dm) (cz) (dA)) (NV.oJ) (aM hS ho [0] (fun cB h=>GD (hS:=h))) (nu part bg off size true) rfl (aM hS ho [0] (fun cB h=>cs1 (hS:=h))) (ny pos ee) (by rw[he.1,he.2];first|rfl|(rw[dB hb1.2.1];rfl)) (aM hS ho [0] (fun cB h=>EC (hS:=h)))
 | s9 hS ho he ha hso hr hb hat hlen hka hp =>
   rename_i aO kn kv kw dm cz dA bY bJ bX part bg off size pos ee at_ x0 x1 x2 len τ
   subst hp
   exact fM (fun w' hS' hm ho2 => .s9 hS' ho2 he ha hso (hr.step hm) hb hat hlen hka rfl) (qj 2 aO kn kv kw (dm) (cz) (dA)) (NV.oJ) (aM hS ho [0] (fun cB h=>GD (hS:=h))) (nu part bg off size true) rfl (aM hS ho [0] (fun cB h=>cs1 (hS:=h))) (ny pos ee) (by rw[he.1,he.2];first|rfl|(rw[dB hb1.2.1];rfl)) (aM hS ho [0] (fun cB h=>EC (hS:=h)))
 | s10 hS ho hrc hrn hre hf iP hp =>
   rename_i aO kn kv kw dm cz dA bY bJ bX part bg off size pos ee bq bP bM aN az bD rat τ f
   subst hp
   have back:∀w' ,ah w' (dl (wM l aO kn kv kw (.slice (dm) (cz) (dA)) (.slice (bY) (bJ) (bX)) aW part bg off size pos ee bq bP bM aN az bD rat)) kP τ→bK kP τ W kP τ w'→Own kP τ rt (Grow O W w')→CR l B aW q _ ka w' rt (Grow O W w'):=fun w' hS' hm ho2 => .s10 hS' ho2 hrc hrn hre hf iP rfl
   exact⟨⟨.tuple #[.agg #[.int .i64 1,.int .i64 bq,.int .i64 8,.int .u64 bP,.int .u64 bM,.slice none 0 0],.bool true],NV.oJ (by refine⟨?_,?_,?_,?_,?_,?_⟩<;>first|rfl|omega|(simp only[cO.fu,cO.M,aP];omega)|(rw[hrn]at iP;exact iP.2)),aM hS ho [0,1] (fun cB h=>Zf (hS:=h)) back⟩,⟨.tuple #[.agg #[.int .i64 part,.int .i32 bg,.int .i64 off,.int .i64 size],.bool true],rfl,aM hS ho [0] (fun cB h=>cs1 (hS:=h)) back⟩,(if e0:bD=0 then⟨.tuple #[.int .i64 0,.int .i64 6],(by omega),aM hS ho [0,1] (fun cB h=>LQ (re:=bD) (by kernel_rfl) e0 (hS:=h)) back⟩else if e1:bD=5 then⟨.tuple #[.int .i64 0,.int .i64 6],(by omega),aM hS ho [0,1] (fun cB h=>LP (re:=bD) (by kernel_rfl) e0 e1 (hS:=h)) back⟩else⟨.tuple #[.int .i64 0,.int .i64 bD],(by rw[hre];rfl),aM hS ho [0,1] (fun cB h=>LM (re:=bD) (by kernel_rfl) e0 e1 (hS:=h)) back⟩)⟩
 | s11 hS ho he ha hat hlen hka hp =>
   rename_i aO kn kv kw dm cz dA bY bJ bX part bg off size pos ee at_ x0 x1 x2 len τ
   subst hp
   exact fM (fun w' hS' hm ho2 => .s11 hS' ho2 he ha hat hlen hka rfl) (qj 2 aO kn kv kw (dm) (cz) (dA)) (NV.oJ) (aM hS ho [0] (fun cB h=>GD (hS:=h))) (nu part bg off size true) rfl (aM hS ho [0] (fun cB h=>cs1 (hS:=h))) (ny pos ee) (by rw[he.1,he.2];first|rfl|(rw[dB hb1.2.1];rfl)) (aM hS ho [0] (fun cB h=>EC (hS:=h)))
 | s12 hS ho he ha hso hr hb hat hlen hka hp =>
   rename_i aO kn kv kw dm cz dA bY bJ bX part bg off size pos ee at_ x0 x1 x2 len τ
   subst hp
   exact fM (fun w' hS' hm ho2 => .s12 hS' ho2 he ha hso (hr.step hm) hb hat hlen hka rfl) (qj 2 aO kn kv kw (dm) (cz) (dA)) (NV.oJ) (aM hS ho [0] (fun cB h=>GD (hS:=h))) (nu part bg off size true) rfl (aM hS ho [0] (fun cB h=>cs1 (hS:=h))) (ny pos ee) (by rw[he.1,he.2];first|rfl|(rw[dB hb1.2.1];rfl)) (aM hS ho [0] (fun cB h=>EC (hS:=h)))
 | s13 hS ho hrc hrn hre hf iP hp =>
   rename_i aO kn kv kw dm cz dA bY bJ bX part bg off size pos ee bq bP bM aN az bD τ f
   subst hp
   have back:∀w' ,ah w' (dl (Av l aO kn kv kw (.slice (dm) (cz) (dA)) (.slice (bY) (bJ) (bX)) aW part bg off size pos ee bq bP bM aN az bD)) lY τ→bK lY τ W lY τ w'→Own lY τ rt (Grow O W w')→CR l B aW q _ ka w' rt (Grow O W w'):=fun w' hS' hm ho2 => .s13 hS' ho2 hrc hrn hre hf iP rfl
   exact⟨⟨.tuple #[.agg #[.int .i64 4,.int .i64 bq,.int .i64 8,.int .u64 bP,.int .u64 bM,.slice none 0 0],.bool true],NV.oJ (by refine⟨?_,?_,?_,?_,?_,?_⟩<;>first|rfl|omega|(simp only[cO.fu,cO.M,aP];omega)|(rw[hrn]at iP;exact iP.2)),aM hS ho [0,1] (fun cB h=>Zf (hS:=h)) back⟩,⟨.tuple #[.agg #[.int .i64 part,.int .i32 bg,.int .i64 off,.int .i64 size],.bool true],rfl,aM hS ho [0] (fun cB h=>cs1 (hS:=h)) back⟩,(if e0:bD=0 then⟨.tuple #[.int .i64 0,.int .i64 6],(by omega),aM hS ho [0,1] (fun cB h=>LQ (re:=bD) (by kernel_rfl) e0 (hS:=h)) back⟩else if e1:bD=5 then⟨.tuple #[.int .i64 0,.int .i64 6],(by omega),aM hS ho [0,1] (fun cB h=>LP (re:=bD) (by kernel_rfl) e0 e1 (hS:=h)) back⟩else⟨.tuple #[.int .i64 0,.int .i64 bD],(by rw[hre];rfl),aM hS ho [0,1] (fun cB h=>LM (re:=bD) (by kernel_rfl) e0 e1 (hS:=h)) back⟩)⟩
 | G9 hS ho hrc hrn hre iP hp =>
   rename_i aO kn kv kw dm cz dA bY bJ bX part bg off size pos ee bq bP bM aN az bD τ
   subst hp
   have back:∀w' ,ah w' (dl (Au l aO kn kv kw (.slice (dm) (cz) (dA)) (.slice (bY) (bJ) (bX)) aW part bg off size pos ee bq bP bM aN az bD)) mZ τ→bK mZ τ W mZ τ w'→Own mZ τ rt (Grow O W w')→CR l B aW q _ ka w' rt (Grow O W w'):=fun w' hS' hm ho2 => .G9 hS' ho2 hrc hrn hre iP rfl
   exact⟨⟨.tuple #[.agg #[.int .i64 4,.int .i64 bq,.int .i64 4,.int .u64 bP,.int .u64 bM,.slice none 0 0],.bool true],NV.oJ (by refine⟨?_,?_,?_,?_,?_,?_⟩<;>first|rfl|omega|(simp only[cO.fu,cO.M,aP];omega)|(rw[hrn]at iP;exact iP.2)),aM hS ho [0,1] (fun cB h=>Zf (hS:=h)) back⟩,⟨.tuple #[.agg #[.int .i64 part,.int .i32 bg,.int .i64 off,.int .i64 size],.bool true],rfl,aM hS ho [0] (fun cB h=>cs1 (hS:=h)) back⟩,(if e0:bD=0 then⟨.tuple #[.int .i64 0,.int .i64 6],(by omega),aM hS ho [0,1] (fun cB h=>LQ (re:=bD) (by kernel_rfl) e0 (hS:=h)) back⟩else if e1:bD=5 then⟨.tuple #[.int .i64 0,.int .i64 6],(by omega),aM hS ho [0,1] (fun cB h=>LP (re:=bD) (by kernel_rfl) e0 e1 (hS:=h)) back⟩else⟨.tuple #[.int .i64 0,.int .i64 bD],(by rw[hre];rfl),aM hS ho [0,1] (fun cB h=>LM (re:=bD) (by kernel_rfl) e0 e1 (hS:=h)) back⟩)⟩
 | s15 hS ho he ha hat hlen hka hp =>
   rename_i aO kn kv kw dm cz dA bY bJ bX part bg off size pos ee at_ x0 x1 x2 len τ
   subst hp
   exact fM (fun w' hS' hm ho2 => .s15 hS' ho2 he ha hat hlen hka rfl) (qj 2 aO kn kv kw (dm) (cz) (dA)) (NV.oJ) (aM hS ho [0] (fun cB h=>GD (hS:=h))) (nu part bg off size true) rfl (aM hS ho [0] (fun cB h=>cs1 (hS:=h))) (ny pos ee) (by rw[he.1,he.2];first|rfl|(rw[dB hb1.2.1];rfl)) (aM hS ho [0] (fun cB h=>EC (hS:=h)))
 | s16 hS ho he ha hso hr hb hat hlen hka hp =>
   rename_i aO kn kv kw dm cz dA bY bJ bX part bg off size pos ee at_ x0 x1 x2 len τ
   subst hp
   exact fM (fun w' hS' hm ho2 => .s16 hS' ho2 he ha hso (hr.step hm) hb hat hlen hka rfl) (qj 2 aO kn kv kw (dm) (cz) (dA)) (NV.oJ) (aM hS ho [0] (fun cB h=>GD (hS:=h))) (nu part bg off size true) rfl (aM hS ho [0] (fun cB h=>cs1 (hS:=h))) (ny pos ee) (by rw[he.1,he.2];first|rfl|(rw[dB hb1.2.1];rfl)) (aM hS ho [0] (fun cB h=>EC (hS:=h)))
 | G8 hS ho hp =>
   rename_i aO kn kv kw dm cz dA bY bJ bX part bg off size pos ee bq bP bM aN az rE bD τ
   subst hp
   have back:∀w' ,ah w' (dl (Aq l aO kn kv kw (.slice (dm) (cz) (dA)) (.slice (bY) (bJ) (bX)) aW part bg off size pos ee bq bP bM aN az rE bD)) lW τ→bK lW τ W lW τ w'→Own lW τ rt (Grow O W w')→CR l B aW q _ ka w' rt (Grow O W w'):=fun w' hS' hm ho2 => .G8 hS' ho2 rfl
   exact⟨⟨.tuple #[.agg #[.int .i64 0,.int .i64 0,.int .i64 0,.int .u64 0,.int .u64 0,.slice none 0 0],.bool false],rfl,aM hS ho [0,1] (fun cB h=>cn4 (hS:=h)) back⟩,⟨.tuple #[.agg #[.int .i64 part,.int .i32 bg,.int .i64 off,.int .i64 size],.bool true],rfl,aM hS ho [0] (fun cB h=>cs1 (hS:=h)) back⟩,(if e0:bD=0 then⟨.tuple #[.int .i64 0,.int .i64 6],(by show _=Value.tuple #[.int .i64 0,.int .i64 (if _ then _ else _)];rw[if_pos (.inl e0)]),aM hS ho [0,1] (fun cB h=>LQ (re:=bD) (by kernel_rfl) e0 (hS:=h)) back⟩else if e1:bD=5 then⟨.tuple #[.int .i64 0,.int .i64 6],(by show _=Value.tuple #[.int .i64 0,.int .i64 (if _ then _ else _)];rw[if_pos (.inr e1)]),aM hS ho [0,1] (fun cB h=>LP (re:=bD) (by kernel_rfl) e0 e1 (hS:=h)) back⟩else⟨.tuple #[.int .i64 0,.int .i64 bD],(by show _=Value.tuple #[.int .i64 0,.int .i64 (if _ then _ else _)];rw[if_neg (by omega)]),aM hS ho [0,1] (fun cB h=>LM (re:=bD) (by kernel_rfl) e0 e1 (hS:=h)) back⟩)⟩
 | La hS ho he ha hat hlen hka hp =>
   rename_i aO kn kv kw dm cz dA bY bJ bX part bg off size pos ee at_ x0 x1 x2 len τ
   subst hp
   exact fM (fun w' hS' hm ho2 => .La hS' ho2 he ha hat hlen hka rfl) (qj 2 aO kn kv kw (dm) (cz) (dA)) (NV.oJ) (aM hS ho [0] (fun cB h=>GD (hS:=h))) (nu part bg off size true) rfl (aM hS ho [0] (fun cB h=>cs1 (hS:=h))) (ny pos ee) (by rw[he.1,he.2];first|rfl|(rw[dB hb1.2.1];rfl)) (aM hS ho [0] (fun cB h=>EC (hS:=h)))
 | Gz hS ho he ha hso hp =>
   rename_i aO kn kv kw dm cz dA bY bJ bX part bg off size pos ee τ
   subst hp
   exact fM (fun w' hS' hm ho2 => .Gz hS' ho2 he ha hso rfl) (qj 2 aO kn kv kw (dm) (cz) (dA)) (NV.oJ) (aM hS ho [0] (fun cB h=>GD (hS:=h))) (nu part bg off size true) rfl (aM hS ho [0] (fun cB h=>cs1 (hS:=h))) (ny pos ee) (by rw[he.1,he.2];first|rfl|(rw[dB hb1.2.1];rfl)) (aM hS ho [0] (fun cB h=>EC (hS:=h)))
 | s20 hS ho he ha hso hat hlen hp =>
   rename_i aO kn kv kw dm cz dA bY bJ bX part bg off size pos ee at2 len τ
   subst hp
   exact fM (fun w' hS' hm ho2 => .s20 hS' ho2 he ha hso hat hlen rfl) (qj 2 aO kn kv kw (dm) (cz) (dA)) (NV.oJ) (aM hS ho [0] (fun cB h=>GD (hS:=h))) (nu part bg off size true) rfl (aM hS ho [0] (fun cB h=>cs1 (hS:=h))) (ny pos ee) (by rw[he.1,he.2];first|rfl|(rw[dB hb1.2.1];rfl)) (aM hS ho [0] (fun cB h=>EC (hS:=h)))
 | G7 hS ho he ha hkb hso hb1 hr hd IC hat hlen hp =>
   rename_i aO kn kv kw dm cz dA bY bJ bX part bg off size pos ee at_ n8 da dn dc at2 len τ b1 f
   subst hp
   obtain⟨f,rfl⟩:∃f',f=f'+1:=⟨f-1,by omega⟩
   exact fM (fun w' hS' hm ho2 => .G7 hS' ho2 he ha hkb hso hb1 (hr.step hm) hd IC hat hlen rfl) (qj 6 aO kn kv kw (dm) (cz) (dA)) (WG hb1.2.1 IC hkb.2.1 (by omega) hkb.1 hkb.2.2) (aM hS ho [0] (fun cB h=>GD (hS:=h))) (nu part bg off size true) (by rw[dB hb1.2.1];rfl) (aM hS ho [0] (fun cB h=>cs1 (hS:=h))) (ny pos ee) (by rw[he.1,he.2];first|rfl|(rw[dB hb1.2.1];rfl)) (aM hS ho [0] (fun cB h=>EC (hS:=h)))
 | JE hS ho he ha hp =>
   rename_i aO kn kv kw dm cz dA bY bJ bX part bg off size pos ee τ
   subst hp
   exact fM (fun w' hS' hm ho2 => .JE hS' ho2 he ha rfl) (qj 2 aO kn kv kw (dm) (cz) (dA)) (NV.oJ) (aM hS ho [0] (fun cB h=>GD (hS:=h))) (nu part bg off size true) rfl (aM hS ho [0] (fun cB h=>cs1 (hS:=h))) (ny pos ee) (by rw[he.1,he.2];first|rfl|(rw[dB hb1.2.1];rfl)) (aM hS ho [0] (fun cB h=>EC (hS:=h)))
 | Gy hS ho hp =>
   rename_i aO kn kv kw dm cz dA bY bJ bX part bg off size pos ee τ
   subst hp
   exact fM (fun w' hS' hm ho2 => .Gy hS' ho2 rfl) (TB) rfl (aM hS ho [0] (fun cB h=>cn2 (hS:=h))) (nu part bg off size true) rfl (aM hS ho [0] (fun cB h=>cs1 (hS:=h))) (ny pos ee) rfl (aM hS ho [0] (fun cB h=>EC (hS:=h)))
end
end Go.Proofs.YtlaogoehmndcjaaGreatDoor.Sy
namespace Go.Proofs.YtlaogoehmndcjaaGreatDoor.Sy
open Go RowKit Lib AS Base Ba
noncomputable section
theorem YI {l:Lg} {ba:Option Addr} {bn bc:Nat} {aW:Bool} (hw:l.wf) (hbn:bn≤1000) (e0:ba=none) (e1:l.ok) (e2:((bn:Nat):Int)>l.aV) {w:World} (hw1:1≤w.heap.size)  : Calls Tryz.prog 58 #[l.val,.slice (ba) (bn) (bc),.bool aW] w fun e w'=>∃bf,∃VV:Nat→Value,e =.returned (.pointer (some ⟨(bf 0).1,(bf 0).2+0,none⟩))∧ah w' (dl (lU l 0 0 0 0 sZ sZ aW 0 0 0 0 0 4)) gV bf∧bK [] bI w gV bf w':=by
 letI:bH:=⟨dl (iN l++[.slice (ba) (bn) (bc),.bool aW,iL ((bn:Nat):Int)])⟩
 have hlb:=e1.bounds
 have hlm:=jA e1
 have hD:dG 10=true:=by kernel_rfl
 have hR:dN T0 [⟨(4,32,3),[sym 7],sym 9⟩,⟨(25,3,3),[sym 9,sym 2],.bool true⟩]:=wZ (ba) bn bc 32 5 Tryz.underlying32 (by decide) (r6 .gtr (((bn:Nat):Int)) l.aV (.bool true) (jZ (Ah e2)) (gn))
 have hP:gY T0 [(28,[sym 7],sZ),(36,[iD],iZ)]:=pq hD (args :=#[.slice (ba) (bn) (bc)]) (fun W hW=>by rw[e0];exact wK _ _ W) (pq hD (fun W hW=>eT l e1 W) (qn))
 refine(Bi J3 J2 [iD,sym 7,sym 8] [(211,zA++[.nilFunc]++dM++[sZ,sym 8,.pointer none,iZ,iI 0,iZ,iZ,.bool false,iZ,iL 4])] [6] [] [] (qP 6) hR hP fn0 (fun _ _=>trivial) hw1 (A':=gV) (L':=fun(VV:Nat→Value)=>(lU l 0 0 0 0 sZ sZ aW 0 0 0 0 0 4))).mono ?_
 rintro e w' ⟨bf,VV,h0,h1,h2,_⟩
 exact⟨bf,VV,h0,h1,h2⟩
theorem YH {l:Lg} {ba:Option Addr} {bn bc:Nat} {aW:Bool} (hw:l.wf) (hbn:bn≤1000) (e0:ba=none) (e1:l.ok) (e2:¬(((bn:Nat):Int)>l.aV)) {w:World} (hw1:1≤w.heap.size)  : Calls Tryz.prog 58 #[l.val,.slice (ba) (bn) (bc),.bool aW] w fun e w'=>∃bf,∃VV:Nat→Value,e =.returned (.pointer (some ⟨(bf 0).1,(bf 0).2+0,none⟩))∧ah w' (dl (Cn l (l.base+3*l.term+32) 8 0 0 sZ sZ aW 0 0 0 0 0 10 (aU ((bn:Nat):Int)) (aU ((bn:Nat):Int)))) pO bf∧bK [] bI w pO bf w':=by
 letI:bH:=⟨dl (iN l++[.slice (ba) (bn) (bc),.bool aW,iL ((bn:Nat):Int),iL (aU ((bn:Nat):Int)),iL (l.base+3*l.term+32)])⟩
 have hlb:=e1.bounds
 have hlm:=jA e1
 have hD:dG 12=true:=by kernel_rfl
 have hR:dN T0 [⟨(4,32,3),[sym 7],sym 9⟩,⟨(25,3,3),[sym 9,sym 2],.bool false⟩]:=wZ (ba) bn bc 32 5 Tryz.underlying32 (by decide) (r6 .gtr (((bn:Nat):Int)) l.aV (.bool false) (jZ (tQ e2)) (gn))
 have hP:gY T0 [(28,[sym 7],sZ),(36,[iD],iZ),(100,[sym 9],.tuple #[sym 10,iZ]),(81,[iD],sym 11)]:=pq hD (args :=#[.slice (ba) (bn) (bc)]) (fun W hW=>by rw[e0];exact wK _ _ W) (pq hD (fun W hW=>eT l e1 W) (pq hD (fun W hW=>qp ((bn:Nat):Int) (by omega) (by omega) W) (pq hD (fun W hW=>mK l e1 W) (qn))))
 refine(Bi J3 J2 [iD,sym 7,sym 8] [(211,[iL 1,sym 11,iL 8,uZ,uZ,sZ,qF 166 [qP 26]]++dM++[sZ,sym 8,.pointer none,iZ,iI 0,iZ,iZ,.bool false,iZ,iL 10]),(227,[qF 138 [qP 17,qP 18,qP 20,qP 19]]),(171,[qP 6]),(23,dM),(208,[qF 101 [qP 7,qP 9]]),(2,[sym 10]),(138,[qP 6]),(3,[sym 10])] [6,26,17,18,20,19,7,9] [] [] (qP 6) hR hP fn0 (fun _ _=>trivial) hw1 (A':=pO) (L':=fun(VV:Nat→Value)=>(Cn l (l.base+3*l.term+32) 8 0 0 sZ sZ aW 0 0 0 0 0 10 (aU ((bn:Nat):Int)) (aU ((bn:Nat):Int))))).mono ?_
 rintro e w' ⟨bf,VV,h0,h1,h2,_⟩
 exact⟨bf,VV,h0,h1,h2⟩
theorem YG {l:Lg} {ba:Option Addr} {bn bc:Nat} {aW:Bool} (hw:l.wf) (hbn:bn≤1000) (e0:ba=none) (e1:¬(l.ok)) {w:World} (hw1:1≤w.heap.size)  : Calls Tryz.prog 58 #[l.val,.slice (ba) (bn) (bc),.bool aW] w fun e w'=>∃bf,∃VV:Nat→Value,e =.returned (.pointer (some ⟨(bf 0).1,(bf 0).2+0,none⟩))∧ah w' (dl (lU l 0 0 0 0 sZ sZ aW 0 0 0 0 0 1)) gV bf∧bK [] bI w gV bf w':=by
 letI:bH:=⟨dl (iN l++[.slice (ba) (bn) (bc),.bool aW])⟩
 have hD:dG 9=true:=by kernel_rfl
 have hR:dN T0 []:=gn
 have hP:gY T0 [(28,[sym 7],sZ),(36,[iD],iL 1)]:=pq hD (args :=#[.slice (ba) (bn) (bc)]) (fun W hW=>by rw[e0];exact wK _ _ W) (pq hD (fun W hW=>AA l hw e1 W) (qn))
 refine(Bi J3 J2 [iD,sym 7,sym 8] [(211,zA++[.nilFunc]++dM++[sZ,sym 8,.pointer none,iZ,iI 0,iZ,iZ,.bool false,iZ,iL 1])] [6] [] [] (qP 6) hR hP fn0 (fun _ _=>trivial) hw1 (A':=gV) (L':=fun(VV:Nat→Value)=>(lU l 0 0 0 0 sZ sZ aW 0 0 0 0 0 1))).mono ?_
 rintro e w' ⟨bf,VV,h0,h1,h2,_⟩
 exact⟨bf,VV,h0,h1,h2⟩
theorem YF {l:Lg} {ba:Option Addr} {bn bc:Nat} {aW:Bool} (hw:l.wf) (hbn:bn≤1000) (e0:¬(ba=none)) (e1:l.ok) (e2:((bn:Nat):Int)>l.aV) {w:World} (hw1:1≤w.heap.size) {B:List Nat} (hBl:B.length=bn) (hB:∀x∈B,x<256) (hT:∀w',Below w.heap.size w w'→fK w' ba B):Calls Tryz.prog 58 #[l.val,.slice (ba) (bn) (bc),.bool aW] w fun e w'=>∃bf,∃VV:Nat→Value,e =.returned (.pointer (some ⟨(bf 0).1,(bf 0).2+0,none⟩))∧ah w' (dl (lU l 0 0 0 0 sZ (VV 9) aW 0 0 0 0 0 4)) gV bf∧bK [] bI w gV bf w'∧mV gV bf w w' (qB bn B) (VV 9):=by
 letI:bH:=⟨dl (iN l++[.slice (ba) (bn) (bc),.bool aW,iL ((bn:Nat):Int)])⟩
 have hlb:=e1.bounds
 have hlm:=jA e1
 have hD:dG 10=true:=by kernel_rfl
 have hR:dN (fun W=>fK W ba B) [⟨(4,32,3),[sym 7],sym 9⟩,⟨(25,3,3),[sym 9,sym 2],.bool true⟩]:=wZ (ba) bn bc 32 5 Tryz.underlying32 (by decide) (r6 .gtr (((bn:Nat):Int)) l.aV (.bool true) (jZ (Ah e2)) (gn))
 have hP:gY (fun W=>fK W ba B) [(36,[iD],iZ)]:=pq hD (fun W hW=>eT l e1 W) (qn)
 have hF:xM J3 J2 [⟨(4,32,3),[sym 7],sym 9⟩,⟨(25,3,3),[sym 9,sym 2],.bool true⟩] (fun W=>fK W ba B) (fun _=>False) [⟨28,[sym 7],.dyn (qB bn B),fun i => .complex .f32 31 i⟩]:=Ac hD (ba) (bn) (bc) B hBl (by omega) hB e0 (fun w hw=>hw) (fn0)
 refine(Bi J3 J2 [iD,sym 7,sym 8] [(211,zA++[.nilFunc]++dM++[.complex .f32 31 9,sym 8,.pointer none,iZ,iI 0,iZ,iZ,.bool false,iZ,iL 4])] [6] [9] [(qB bn B)] (qP 6) hR hP hF (hT) hw1 (A':=gV) (L':=fun(VV:Nat→Value)=>(lU l 0 0 0 0 sZ (VV 9) aW 0 0 0 0 0 4))).mono ?_
 rintro e w' ⟨bf,VV,h0,h1,h2,hq⟩
 exact⟨bf,VV,h0,h1,h2,hq (0) (9) _ rfl rfl⟩
theorem YE {l:Lg} {ba:Option Addr} {bn bc:Nat} {aW:Bool} (hw:l.wf) (hbn:bn≤1000) (e0:¬(ba=none)) (e1:l.ok) (e2:¬(((bn:Nat):Int)>l.aV)) {w:World} (hw1:1≤w.heap.size) {B:List Nat} (hBl:B.length=bn) (hB:∀x∈B,x<256) (hT:∀w',Below w.heap.size w w'→fK w' ba B):Calls Tryz.prog 58 #[l.val,.slice (ba) (bn) (bc),.bool aW] w fun e w'=>∃bf,∃VV:Nat→Value,e =.returned (.pointer (some ⟨(bf 0).1,(bf 0).2+0,none⟩))∧ah w' (dl (Cn l (l.base+3*l.term+32) 8 0 0 sZ (VV 9) aW 0 0 0 0 0 10 (aU ((bn:Nat):Int)) (aU ((bn:Nat):Int)))) pO bf∧bK [] bI w pO bf w'∧mV pO bf w w' (qB bn B) (VV 9):=by
 letI:bH:=⟨dl (iN l++[.slice (ba) (bn) (bc),.bool aW,iL ((bn:Nat):Int),iL (aU ((bn:Nat):Int)),iL (l.base+3*l.term+32)])⟩
 have hlb:=e1.bounds
 have hlm:=jA e1
 have hD:dG 12=true:=by kernel_rfl
 have hR:dN (fun W=>fK W ba B) [⟨(4,32,3),[sym 7],sym 9⟩,⟨(25,3,3),[sym 9,sym 2],.bool false⟩]:=wZ (ba) bn bc 32 5 Tryz.underlying32 (by decide) (r6 .gtr (((bn:Nat):Int)) l.aV (.bool false) (jZ (tQ e2)) (gn))
 have hP:gY (fun W=>fK W ba B) [(36,[iD],iZ),(100,[sym 9],.tuple #[sym 10,iZ]),(81,[iD],sym 11)]:=pq hD (fun W hW=>eT l e1 W) (pq hD (fun W hW=>qp ((bn:Nat):Int) (by omega) (by omega) W) (pq hD (fun W hW=>mK l e1 W) (qn)))
 have hF:xM J3 J2 [⟨(4,32,3),[sym 7],sym 9⟩,⟨(25,3,3),[sym 9,sym 2],.bool false⟩] (fun W=>fK W ba B) (fun _=>False) [⟨28,[sym 7],.dyn (qB bn B),fun i => .complex .f32 31 i⟩]:=Ac hD (ba) (bn) (bc) B hBl (by omega) hB e0 (fun w hw=>hw) (fn0)
 refine(Bi J3 J2 [iD,sym 7,sym 8] [(211,[iL 1,sym 11,iL 8,uZ,uZ,sZ,qF 166 [qP 27]]++dM++[.complex .f32 31 9,sym 8,.pointer none,iZ,iI 0,iZ,iZ,.bool false,iZ,iL 10]),(227,[qF 138 [qP 18,qP 19,qP 21,qP 20]]),(171,[qP 6]),(23,dM),(208,[qF 101 [qP 7,qP 10]]),(2,[sym 10]),(138,[qP 6]),(3,[sym 10])] [6,27,18,19,21,20,7,10] [9] [(qB bn B)] (qP 6) hR hP hF (hT) hw1 (A':=pO) (L':=fun(VV:Nat→Value)=>(Cn l (l.base+3*l.term+32) 8 0 0 sZ (VV 9) aW 0 0 0 0 0 10 (aU ((bn:Nat):Int)) (aU ((bn:Nat):Int))))).mono ?_
 rintro e w' ⟨bf,VV,h0,h1,h2,hq⟩
 exact⟨bf,VV,h0,h1,h2,hq (0) (9) _ rfl rfl⟩
theorem YD {l:Lg} {ba:Option Addr} {bn bc:Nat} {aW:Bool} (hw:l.wf) (hbn:bn≤1000) (e0:¬(ba=none)) (e1:¬(l.ok)) {w:World} (hw1:1≤w.heap.size) {B:List Nat} (hBl:B.length=bn) (hB:∀x∈B,x<256) (hT:∀w',Below w.heap.size w w'→fK w' ba B):Calls Tryz.prog 58 #[l.val,.slice (ba) (bn) (bc),.bool aW] w fun e w'=>∃bf,∃VV:Nat→Value,e =.returned (.pointer (some ⟨(bf 0).1,(bf 0).2+0,none⟩))∧ah w' (dl (lU l 0 0 0 0 sZ (VV 9) aW 0 0 0 0 0 1)) gV bf∧bK [] bI w gV bf w'∧mV gV bf w w' (qB bn B) (VV 9):=by
 letI:bH:=⟨dl (iN l++[.slice (ba) (bn) (bc),.bool aW])⟩
 have hD:dG 9=true:=by kernel_rfl
 have hR:dN (fun W=>fK W ba B) []:=gn
 have hP:gY (fun W=>fK W ba B) [(36,[iD],iL 1)]:=pq hD (fun W hW=>AA l hw e1 W) (qn)
 have hF:xM J3 J2 [] (fun W=>fK W ba B) (fun _=>False) [⟨28,[sym 7],.dyn (qB bn B),fun i => .complex .f32 31 i⟩]:=Ac hD (ba) (bn) (bc) B hBl (by omega) hB e0 (fun w hw=>hw) (fn0)
 refine(Bi J3 J2 [iD,sym 7,sym 8] [(211,zA++[.nilFunc]++dM++[.complex .f32 31 9,sym 8,.pointer none,iZ,iI 0,iZ,iZ,.bool false,iZ,iL 1])] [6] [9] [(qB bn B)] (qP 6) hR hP hF (hT) hw1 (A':=gV) (L':=fun(VV:Nat→Value)=>(lU l 0 0 0 0 sZ (VV 9) aW 0 0 0 0 0 1))).mono ?_
 rintro e w' ⟨bf,VV,h0,h1,h2,hq⟩
 exact⟨bf,VV,h0,h1,h2,hq (0) (9) _ rfl rfl⟩
end
end Go.Proofs.YtlaogoehmndcjaaGreatDoor.Sy
namespace Go.Proofs.YtlaogoehmndcjaaGreatDoor.Sy
open Go RowKit Lib AS Base Pr Ba
theorem F5 {l:Lg} (hw:l.wf) {B:List Nat} {aW:Bool} (hB:∀x∈B,x<256) {ba:Option Addr} {bc:Nat} (hbn:B.length≤1000) {W:World} (h1:1≤W.heap.size) (hr:∀w',Below W.heap.size W w'→fK w' ba B) :
 Calls Tryz.prog 58 #[l.val,.slice ba B.length bc,.bool aW] W fun e w'=>∃rt,e =.returned (dS rt)∧Below W.heap.size W w'∧∀q,CRx l B aW q (eD (aP l) B aW) w' rt (Made W w'):=by
 have h4:∀(h:l.ok) (h2:(B.length:Int)>l.aV),eD (aP l) B aW =.done ⟨bW,false,0,4⟩:=fun h h2=>by
  unfold eD
  exact(if_neg (show ¬ ¬(aP l).ok from fun k=>k h)).trans (if_pos (show(B.length:Int)>(aP l).aV from h2))
 have hn:∀(h:¬l.ok),eD (aP l) B aW =.done ⟨bW,false,0,1⟩:=fun h=>by
  unfold eD
  exact if_pos (show ¬(aP l).ok from h)
 have hy:∀(h:l.ok) (h2:¬(B.length:Int)>l.aV),eD (aP l) B aW=yA (aP l) (aU (B.length:Int)) (BG (aP l) B aW):=fun h h2=>Cj (aP l) B aW h (show(B.length:Int)≤l.aV by omega)
 by_cases e0:ba=none
 ·have hB0:B=[]:=C8 (by rw[←e0];exact hr W (Below.refl _ _))
  by_cases e1:l.ok
  ·by_cases e2:(B.length:Int)>l.aV
   ·refine(YI (bc:=bc) (aW:=aW) hw hbn e0 e1 e2 h1).mono ?_
    rintro e w' ⟨bf,VV,rfl,hS,hm⟩
    exact⟨bf 0,rfl,gP hm,fun q=>⟨none,.s3 hS (jV hS hm) rfl ⟨rfl,rfl,rfl,rfl⟩ (h4 e1 e2)⟩⟩
   ·refine(YH (bc:=bc) (aW:=aW) hw hbn e0 e1 e2 h1).mono ?_
    rintro e w' ⟨bf,VV,rfl,hS,hm⟩
    subst hB0
    exact⟨bf 0,rfl,gP hm,fun q=>⟨none,.s0 hS (jV hS hm) ⟨rfl,rfl,rfl,rfl,rfl⟩ ⟨rfl,rfl⟩ ⟨rfl,rfl,rfl,rfl⟩ ⟨rfl,rfl⟩ RowK.nil ⟨rfl,Nat.le_refl _⟩ (hy e1 e2)⟩⟩
  ·refine(YG (bc:=bc) (aW:=aW) hw hbn e0 e1 h1).mono ?_
   rintro e w' ⟨bf,VV,rfl,hS,hm⟩
   exact⟨bf 0,rfl,gP hm,fun q=>⟨none,.s3 hS (jV hS hm) rfl ⟨rfl,rfl,rfl,rfl⟩ (hn e1)⟩⟩
 ·by_cases e1:l.ok
  ·by_cases e2:(B.length:Int)>l.aV
   ·refine(YF (bc:=bc) (aW:=aW) hw hbn e0 e1 e2 h1 rfl hB hr).mono ?_
    rintro e w' ⟨bf,VV,rfl,hS,hm,hq⟩
    obtain⟨g,cap,hv,hc,hrow⟩:=hq.row (O:=fun _=>False)
    rw[hv]at hS
    exact⟨bf 0,rfl,gP hm,fun q=>⟨none,.s3 hS (jV hS hm) rfl ⟨rfl,rfl,rfl,rfl⟩ (h4 e1 e2)⟩⟩
   ·refine(YE (bc:=bc) (aW:=aW) hw hbn e0 e1 e2 h1 rfl hB hr).mono ?_
    rintro e w' ⟨bf,VV,rfl,hS,hm,hq⟩
    obtain⟨g,cap,hv,hc,hrow⟩:=hq.row (O:=fun _=>False)
    rw[hv]at hS
    exact⟨bf 0,rfl,gP hm,fun q=>⟨none,.s0 hS (jV hS hm) ⟨rfl,rfl,rfl,rfl,rfl⟩ ⟨rfl,rfl⟩ ⟨rfl,rfl,rfl,rfl⟩ ⟨rfl,rfl⟩ hrow ⟨rfl,hc⟩ (hy e1 e2)⟩⟩
  ·refine(YD (bc:=bc) (aW:=aW) hw hbn e0 e1 h1 rfl hB hr).mono ?_
   rintro e w' ⟨bf,VV,rfl,hS,hm,hq⟩
   obtain⟨g,cap,hv,hc,hrow⟩:=hq.row (O:=fun _=>False)
   rw[hv]at hS
   exact⟨bf 0,rfl,gP hm,fun q=>⟨none,.s3 hS (jV hS hm) rfl ⟨rfl,rfl,rfl,rfl⟩ (hn e1)⟩⟩
