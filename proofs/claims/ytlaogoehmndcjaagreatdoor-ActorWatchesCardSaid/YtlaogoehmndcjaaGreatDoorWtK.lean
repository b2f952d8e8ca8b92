/- Rules, told briefly. -/
import Derived.Test.YtlaogoehmndcjaaGreatDoorSy0
import Derived.Test.YtlaogoehmndcjaaGreatDoorEvC
set_option linter.unusedVariables false
namespace Go.Proofs.YtlaogoehmndcjaaGreatDoor.Sy
open Go Go.RowKit Go.AS Go.Base Go.Proofs.YtlaogoehmndcjaaGreatDoor.Ba
set_option maxRecDepth 100000
set_option linter.unusedVariables false
abbrev TW : World → Prop := fun W => TabAt 0 Lib.deBruijn64tab W
abbrev OKR [Rho] (R : List Rule) : Prop := ∀ r ∈ R, RuleOK Tryz.prog TW r
abbrev OKP [Rho] (p : PureL) : Prop := ∀ r ∈ p, PureOK Tryz.prog TW r
theorem rn [Rho] : OKR [] := allR_nil
theorem pn [Rho] : OKP [] := allP_nil
def oneB [Rho] (n : Nat) : Bool := (List.range n).all fun i => (Rho.D i).oneCell'
theorem wq {n : Int} (h0 : -9223372036854775808 ≤ n := by omega) (h1 : n ≤ 9223372036854775807 := by omega) : IntKind.i64.wrap n = n := wrap_i64s h0 h1
theorem ri [Rho] (op : BinOp) (j k : IntKind) (x y : Int) (v : Value) {t u : TypeId} {a b r : Value} {l : List Rule} {Tw : World → Prop} (h : binop (mkEnvS Tryz.prog [] [] []) op t (.int j x) (.int k y) = some v) (hl : ∀ q ∈ l, RuleOK Tryz.prog Tw q) (h0 : (okB a && okB b && okB r) = true := by kernel_rfl) (hca : conc a = .int j x := by kernel_rfl) (hcb : conc b = .int k y := by kernel_rfl) (hcr : conc r = v := by kernel_rfl) (hs : simple v = true := by kernel_rfl) : ∀ q ∈ (⟨(bcode op, t, u), [a, b], r⟩ :: l), RuleOK Tryz.prog Tw q := allR_cons (rint op h0 hca hcb hcr h hs) hl
theorem r6 [Rho] (op : BinOp) (x y : Int) (v : Value) {t u : TypeId} {a b r : Value} {l : List Rule} {Tw : World → Prop} (h : binop (mkEnvS Tryz.prog [] [] []) op t (.int .i64 x) (.int .i64 y) = some v) (hl : ∀ q ∈ l, RuleOK Tryz.prog Tw q) (h0 : (okB a && okB b && okB r) = true := by kernel_rfl) (hca : conc a = .int .i64 x := by kernel_rfl) (hcb : conc b = .int .i64 y := by kernel_rfl) (hcr : conc r = v := by kernel_rfl) (hs : simple v = true := by kernel_rfl) : ∀ q ∈ (⟨(bcode op, t, u), [a, b], r⟩ :: l), RuleOK Tryz.prog Tw q := allR_cons (rint op h0 hca hcb hcr h hs) hl
theorem rc [Rho] (j k : IntKind) (n n' : Int) {s d : TypeId} {a r : Value} {l : List Rule} {Tw : World → Prop} (h : k.wrap n = n') (hl : ∀ q ∈ l, RuleOK Tryz.prog Tw q) (h0 : (okB a && okB r) = true := by kernel_rfl) (hca : conc a = .int j n := by kernel_rfl) (hcr : conc r = .int k n' := by kernel_rfl) (ht : (match mkTI Tryz.prog s, mkTI Tryz.prog d with | some _, some td => (match td.desc with | .int k' => sameKind k' k | _ => false) | _, _ => false) = true := by kernel_rfl) : ∀ q ∈ (⟨(1, s, d), [a], r⟩ :: l), RuleOK Tryz.prog Tw q := allR_cons (rconv h0 hca hcr ht h) hl
theorem rr [Rho] {r : Rule} {l : List Rule} (h : RuleOK Tryz.prog TW r) (hl : OKR l) : OKR (r :: l) := allR_cons h hl
end Go.Proofs.YtlaogoehmndcjaaGreatDoor.Sy
