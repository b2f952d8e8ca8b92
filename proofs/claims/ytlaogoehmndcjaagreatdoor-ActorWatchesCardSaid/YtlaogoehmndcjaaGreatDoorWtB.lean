/- The watcher stands for its tree: shapes and trees, held together. -/
import Derived.Test.YtlaogoehmndcjaaGreatDoorWtA
import Derived.Test.YtlaogoehmndcjaaGreatDoorPlA
set_option linter.unusedVariables false
namespace Go.Proofs.YtlaogoehmndcjaaGreatDoor.Sy
open Go Go.RowKit Go.AS Go.Base Go.Pr Go.Proofs.YtlaogoehmndcjaaGreatDoor.Ba
set_option linter.unusedVariables false

def Lgn (l : Lg) : LogN := ⟨l.base, l.term, l.mtu, l.subs, l.ini, l.ses, l.str⟩
structure Bd (times now since sum c : Int) : Prop where
  t : 0 ≤ times ∧ times ≤ 1000000
  n : 0 ≤ now ∧ now ≤ 1125899906842624
  s : 0 ≤ since ∧ since ≤ 1125899906842624
  m : 0 ≤ sum ∧ sum ≤ 100000 * c
  c : 0 ≤ c ∧ c ≤ 1000
structure BdU (l : Lg) (pos trm part off fin un : Int) : Prop where
  p : 0 ≤ pos ∧ pos < l.term * 2147483648
  t : trm = s32 (l.ini + pos / l.term)
  pt : part = l.base + pos / l.term % 3 * l.term
  o : off = pos % l.term
  f : 0 ≤ fin ∧ fin ≤ l.term
  u : un = 0
/-- an unstick's numbers -/
def usOf (l : Lg) (pos trm part off fin : Int) : US := ⟨Lgn l, part, off, fin, pos / l.term * l.term + fin, trm⟩
/-- the blocks of a shape -/
def own (A : Shp) (τ : Nat → Nat × Nat) (b : Nat) : Prop := ∃ i, i < A.length ∧ (τ i).1 = b
/-- what a machine's step leaves as it was: all that is not its own -/
structure Fr (O O' : Nat → Prop) (w w' : World) : Prop where
  os : w'.os = w.os
  tape : w'.tape = w.tape
  output : w'.output = w.output
  size : w.heap.size ≤ w'.heap.size
  block : ∀ b, b < w.heap.size → ¬ O b → w'.heap[b]? = w.heap[b]?
  new : ∀ b, O' b → O b ∨ w.heap.size ≤ b
theorem fr_of {A A' : Shp} {τ τ' : Nat → Nat × Nat} {O : Nat → Prop} {w w' : World} (h : Moved A τ w A' τ' w') (ho : ∀ i, i < A.length → O (τ i).1) : Fr O (own A' τ') w w' :=
  ⟨h.os, h.tape, h.output, h.size, fun b hb hn => h.block b hb (fun i hi e => hn (e ▸ ho i hi)), fun b hb => by
    obtain ⟨i, hi, rfl⟩ := hb
    rcases h.new i hi with ⟨j, hj, e⟩ | h1
    · exact .inl (by rw [e]; exact ho j hj)
    · exact .inr h1⟩
inductive Rep (l : Lg) (timeout c now : Int) (p : Pr Tld WO) (W : World) (τ : Nat → Nat × Nat) (O : Nat → Prop) : Prop
  | s0 {kat kv times since last least sum ix : Int} (hS : Stands W (dl (wa_L0 l timeout kat kv times now since last least sum ix)) wa_A0 τ) (ho : ∀ i, i < wa_A0.length → O (τ i).1) (hl : l.ok) (hb : Bd times now since sum c) (hi : 0 ≤ ix ∧ ix < l.subs) (hk : kat = l.base + 3 * l.term + 48 + ix * 8 ∧ kv = 0) (hp : p = subW (Lgn l) timeout times.toNat ⟨sum, last, since, false⟩ ix.toNat least)
  | s1 {kat kv times since last least sum : Int} (hS : Stands W (dl (wa_L1 l timeout kat kv times now since last least sum)) wa_A1 τ) (ho : ∀ i, i < wa_A1.length → O (τ i).1) (hm : (0 ≤ sum ∧ sum ≤ 100000 * c) ∧ 0 ≤ c ∧ c ≤ 1000) (hp : p = .done (sum, 0, 0))
  | s11 {kat kv times since last least sum : Int} (hS : Stands W (dl (wa_L11 l timeout kat kv times now since last least sum)) wa_A11 τ) (ho : ∀ i, i < wa_A11.length → O (τ i).1) (hm : (0 ≤ sum ∧ sum ≤ 100000 * c) ∧ 0 ≤ c ∧ c ≤ 1000) (hp : p = .done (sum, 0, 0))
  | s2 {kat kv times since last least sum ix : Int} (hS : Stands W (dl (wa_L2 l timeout kat kv times now since last least sum ix)) wa_A2 τ) (ho : ∀ i, i < wa_A2.length → O (τ i).1) (hl : l.ok) (hb : Bd times now since sum c) (hi : 0 ≤ ix ∧ ix < l.subs) (hk : kat = l.base + 3 * l.term + 48 + ix * 8 ∧ kv = 0) (hp : p = subW (Lgn l) timeout times.toNat ⟨sum, last, since, true⟩ ix.toNat least)
  | s3 {kat kv times since last least sum ukat ukv pos trm part off fin un ue : Int} (hS : Stands W (dl (wa_L3 l timeout kat kv times now since last least sum ukat ukv pos trm part off fin un ue)) wa_A3 τ) (ho : ∀ i, i < wa_A3.length → O (τ i).1) (hl : l.ok) (hb : Bd times now since sum c) (hu : BdU l pos trm part off fin un) (hk : ukat = l.base + 3 * l.term + pos / l.term % 3 * 8 ∧ ukv = 0) (hp : p = inU (Lgn l) timeout times.toNat ⟨sum, last, since, true⟩ pos (unstickT (Lgn l) pos))
  | s4 {kat kv times since last least sum ukat ukv pos trm part off fin un ue : Int} (hS : Stands W (dl (wa_L4 l timeout kat kv times now since last least sum ukat ukv pos trm part off fin un ue)) wa_A4 τ) (ho : ∀ i, i < wa_A4.length → O (τ i).1) (hl : l.ok) (hb : Bd times now since sum c) (hu : BdU l pos trm part off fin un) (hf : off < fin) (hk : ukat = part + off ∧ ukv = 0) (hp : p = inU (Lgn l) timeout times.toNat ⟨sum, last, since, true⟩ pos (lookT (usOf l pos trm part off fin)))
  | s5 {kat kv times since last least sum ukat ukv pos trm part off fin un ue nn w0 w1 w2 w3 : Int} (hS : Stands W (dl (wa_L5 l timeout kat kv times now since last least sum ukat ukv pos trm part off fin un ue nn w0 w1 w2 w3)) wa_A5 τ) (ho : ∀ i, i < wa_A5.length → O (τ i).1) (hl : l.ok) (hb : Bd times now since sum c) (hu : BdU l pos trm part off fin un) (hf : off < fin) (hn : 0 ≤ nn ∧ nn ≤ 100000) (hw : w0 = (usOf l pos trm part off fin).word nn 0 ∧ w1 = (usOf l pos trm part off fin).word nn 1 ∧ w2 = (usOf l pos trm part off fin).word nn 2 ∧ w3 = (usOf l pos trm part off fin).word nn 3) (hk : ukat = part + off + 8 ∧ ukv = w1) (hp : p = inU (Lgn l) timeout times.toNat ⟨sum, last, since, true⟩ pos (padT (usOf l pos trm part off fin) nn))
  | s6 {kat kv times since last least sum ukat ukv pos trm part off fin un ue atv fnd : Int} {k : Nat} (hS : Stands W (dl (wa_L6 l timeout kat kv times now since last least sum ukat ukv pos trm part off fin un ue atv fnd)) wa_A6 τ) (ho : ∀ i, i < wa_A6.length → O (τ i).1) (hl : l.ok) (hb : Bd times now since sum c) (hu : BdU l pos trm part off fin un) (hf : off < fin) (ha : off ≤ atv ∧ atv - off < 32 * (k + 1) ∧ atv < fnd) (hn : fnd ≤ fin) (hk : ukat = part + atv ∧ ukv = 0) (hp : p = inU (Lgn l) timeout times.toNat ⟨sum, last, since, true⟩ pos (backT (usOf l pos trm part off fin) fnd (k + 1) atv))
  | s7 {kat kv times since last least sum ukat ukv pos trm part off fin un ue atv : Int} {k : Nat} (hS : Stands W (dl (wa_L7 l timeout kat kv times now since last least sum ukat ukv pos trm part off fin un ue atv)) wa_A7 τ) (ho : ∀ i, i < wa_A7.length → O (τ i).1) (hl : l.ok) (hb : Bd times now since sum c) (hu : BdU l pos trm part off fin un) (hf : off < fin) (ha : off < atv ∧ atv < fin ∧ fin - atv < 32 * (k + 1)) (hk : ukat = part + atv ∧ ukv = 0) (hp : p = inU (Lgn l) timeout times.toNat ⟨sum, last, since, true⟩ pos (aheadT (usOf l pos trm part off fin) (k + 1) atv))
  | s8 {kat kv times since last least sum ukat ukv pos trm part off fin un ue nn w0 w1 w2 w3 : Int} (hS : Stands W (dl (wa_L8 l timeout kat kv times now since last least sum ukat ukv pos trm part off fin un ue nn w0 w1 w2 w3)) wa_A8 τ) (ho : ∀ i, i < wa_A8.length → O (τ i).1) (hl : l.ok) (hb : Bd times now since sum c) (hu : BdU l pos trm part off fin un) (hf : off < fin) (hn : 0 ≤ nn ∧ nn ≤ 100000) (hw : w0 = (usOf l pos trm part off fin).word nn 0 ∧ w1 = (usOf l pos trm part off fin).word nn 1 ∧ w2 = (usOf l pos trm part off fin).word nn 2 ∧ w3 = (usOf l pos trm part off fin).word nn 3) (hk : ukat = part + off + 16 ∧ ukv = w2) (hp : p = inU (Lgn l) timeout times.toNat ⟨sum, last, since, true⟩ pos (padT2 (usOf l pos trm part off fin) nn))
  | s9 {kat kv times since last least sum ukat ukv pos trm part off fin un ue nn w0 w1 w2 w3 : Int} (hS : Stands W (dl (wa_L9 l timeout kat kv times now since last least sum ukat ukv pos trm part off fin un ue nn w0 w1 w2 w3)) wa_A9 τ) (ho : ∀ i, i < wa_A9.length → O (τ i).1) (hl : l.ok) (hb : Bd times now since sum c) (hu : BdU l pos trm part off fin un) (hf : off < fin) (hn : 0 ≤ nn ∧ nn ≤ 100000) (hw : w0 = (usOf l pos trm part off fin).word nn 0 ∧ w1 = (usOf l pos trm part off fin).word nn 1 ∧ w2 = (usOf l pos trm part off fin).word nn 2 ∧ w3 = (usOf l pos trm part off fin).word nn 3) (hk : ukat = part + off + 24 ∧ ukv = w3) (hp : p = inU (Lgn l) timeout times.toNat ⟨sum, last, since, true⟩ pos (padT3 (usOf l pos trm part off fin) nn))
  | s10 {kat kv times since last least sum ukat ukv pos trm part off fin un ue nn w0 w1 w2 w3 : Int} (hS : Stands W (dl (wa_L10 l timeout kat kv times now since last least sum ukat ukv pos trm part off fin un ue nn w0 w1 w2 w3)) wa_A10 τ) (ho : ∀ i, i < wa_A10.length → O (τ i).1) (hl : l.ok) (hb : Bd times now since sum c) (hu : BdU l pos trm part off fin un) (hf : off < fin) (hn : 0 ≤ nn ∧ nn ≤ 100000) (hw : w0 = (usOf l pos trm part off fin).word nn 0 ∧ w1 = (usOf l pos trm part off fin).word nn 1 ∧ w2 = (usOf l pos trm part off fin).word nn 2 ∧ w3 = (usOf l pos trm part off fin).word nn 3) (hk : ukat = part + off ∧ ukv = w0) (hp : p = inU (Lgn l) timeout times.toNat ⟨sum, last, since, true⟩ pos (padT4 (usOf l pos trm part off fin) nn))
theorem Lgn_subs (l : Lg) (hl : l.ok) : 0 < (Lgn l).subs.toNat := by
  have := hl.bounds
  show 0 < l.subs.toNat
  omega
theorem Rep.keep {l : Lg} {timeout c now : Int} {p : Pr Tld WO} {W W' : World} {τ : Nat → Nat × Nat} {O : Nat → Prop} (h : Rep l timeout c now p W τ O) (hb : Below W.heap.size W W') : Rep l timeout c now p W' τ O := by
  cases h with
  | s0 hS ho hl a b d e => exact .s0 (hS.below hb) ho hl a b d e
  | s1 hS ho a b => exact .s1 (hS.below hb) ho a b
  | s11 hS ho a b => exact .s11 (hS.below hb) ho a b
  | s2 hS ho hl a b d e => exact .s2 (hS.below hb) ho hl a b d e
  | s3 hS ho hl a b d e => exact .s3 (hS.below hb) ho hl a b d e
  | s4 hS ho hl a b d e f => exact .s4 (hS.below hb) ho hl a b d e f
  | s5 hS ho hl a b d e f g i => exact .s5 (hS.below hb) ho hl a b d e f g i
  | s6 hS ho hl a b d e f g i => exact .s6 (hS.below hb) ho hl a b d e f g i
  | s7 hS ho hl a b d e f g => exact .s7 (hS.below hb) ho hl a b d e f g
  | s8 hS ho hl a b d e f g i => exact .s8 (hS.below hb) ho hl a b d e f g i
  | s9 hS ho hl a b d e f g i => exact .s9 (hS.below hb) ho hl a b d e f g i
  | s10 hS ho hl a b d e f g i => exact .s10 (hS.below hb) ho hl a b d e f g i
theorem s64w (V : Int) : IntKind.i64.wrap V = s64 V := by rw [IntKind.wrap_i64]; rfl
theorem u32w (x : Int) : u32 (IntKind.i32.wrap x) = u32 x := by rw [IntKind.wrap_i32]; unfold u32; omega
theorem count3 (i q : Int) (h0 : 0 ≤ q) (h1 : q < 2147483648) : u32 (s32 (i + q) - i) = q := by unfold u32 s32; omega
theorem quo_bd {pos t : Int} (ht : 256 ≤ t) (h : 0 ≤ pos ∧ pos < t * 2147483648) : 0 ≤ pos / t ∧ pos / t < 2147483648 :=
  ⟨Int.ediv_nonneg h.1 (by omega), Int.ediv_lt_of_lt_mul (by omega) (by rw [Int.mul_comm]; exact h.2)⟩
theorem rem_bd {pos t : Int} (ht : 256 ≤ t) : 0 ≤ pos % t ∧ pos % t < t := ⟨Int.emod_nonneg _ (by omega), Int.emod_lt_of_pos _ (by omega)⟩
theorem third_bd {q t b : Int} (ht : 256 ≤ t ∧ t ≤ 8192) (hb : 0 ≤ b ∧ b ≤ 131072) (hq : 0 ≤ q) : 0 ≤ b + q % 3 * t ∧ b + q % 3 * t ≤ 200000 := by
  have h : q % 3 = 0 ∨ q % 3 = 1 ∨ q % 3 = 2 := by omega
  rcases h with h | h | h <;> rw [h] <;> omega
end Go.Proofs.YtlaogoehmndcjaaGreatDoor.Sy
