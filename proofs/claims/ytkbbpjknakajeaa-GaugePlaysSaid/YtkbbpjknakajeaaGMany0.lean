/- GaugeMany: what the counters answer, from memory to memory, as the kernel reckons it. -/
import Derived.Test.YtkbbpjknakajeaaNamesLaw
namespace Go.Proofs.Ytkbbpjknakajeaa
open Go Go.AE Go.RowKit
noncomputable section
def EG : Env := mkEnvL Try.prog
def SG : Sums := defS EG 1000 40 isSlow noSums 1
def clG (f : FuncId) (args : List Value) (m : Mem) : List (Value × Mem) := evCallF EG SG 1000 40 (.fn f) args m
def nameOf (i : Nat) : ByteArray := ⟨#[99, UInt8.ofNat (97 + i / 10), UInt8.ofNat (48 + i % 10)]⟩
def ptrOf (l : List (Value × Mem)) : Option (Value × Mem) :=
  match l with
  | [(.pointer (some ⟨b, o, none⟩), m)] => some (.pointer (some ⟨b, o, none⟩), m)
  | _ => none
def startG : Option (Value × Mem) := ptrOf (clG 17 [] ⟨0, .nil⟩)
def rG : Value := match startG with | some r => r.1 | none => und
def m0G : Mem := match startG with | some r => r.2 | none => ⟨0, .nil⟩
/-- a counter asked for: it, and what is said -/
def twoOf (l : List (Value × Mem)) : Option (Value × Int × Mem) :=
  match l with
  | [(.tuple vs, m)] => match vs.toList with
    | [v, .int .i64 e] => some (v, e, m)
    | _ => none
  | _ => none
def cntF (i : Nat) (m : Mem) : Option (Value × Int × Mem) := twoOf (clG 18 [rG, .string (nameOf i)] m)
def intR (l : List (Value × Mem)) : Option (Int × Mem) :=
  match l with
  | [(.int .i64 n, m)] => some (n, m)
  | _ => none
def addF (c : Value) (i : Nat) (m : Mem) : Option (Int × Mem) := intR (clG 19 [c, .int .i64 (.ofNat i)] m)
def valF (c : Value) (m : Mem) : Option (Int × Mem) := intR (clG 20 [c] m)
def bnd {α β : Type} (x : Option α) (f : α → Option β) : Option β := match x with | some a => f a | none => none
/-- a round: both counters, what was said, and the memory behind it -/
def roundG (i : Nat) (m : Mem) : Option Mem :=
  bnd (cntF i m) fun a => bnd (cntF i a.2.2) fun b => cond (Nat.blt i 64)
    (cond (a.2.1 == 0 && b.2.1 == 0) (bnd (addF a.1 i b.2.2) fun x => cond (x.1 == .ofNat i) (bnd (valF b.1 x.2) fun y => cond (y.1 == .ofNat i) (some y.2) none) none) none)
    (cond (a.2.1 == 12 && b.2.1 == 12) (match a.1 with | .pointer none => some b.2.2 | _ => none) none)
def nextG (i : Nat) (m : Mem) : Mem := match roundG i m with | some r => r | none => m
def gseq (i : Nat) : Mem := @Nat.rec (fun _ => Mem) m0G nextG i
def okRound (i : Nat) : Bool := (roundG i (gseq i)).isSome
def allG (n : Nat) (p : Nat → Bool) : Bool := @Nat.rec (fun _ => Bool) true (fun i r => cond (p i) r false) n
theorem allG_spec {p : Nat → Bool} : ∀ {n : Nat}, allG n p = true → ∀ i, i < n → p i = true := by
  intro n
  induction n with
  | zero => intro _ i hi; omega
  | succ n ih =>
    intro h i hi
    have h : cond (p n) (allG n p) false = true := h
    cases hp : p n with
    | false => rw [hp] at h; cases h
    | true =>
      rw [hp] at h
      rcases Nat.lt_or_ge i n with h1 | h1
      · exact ih h i h1
      · obtain rfl : i = n := by omega
        exact hp
set_option maxRecDepth 1000000
theorem startedG : startG.isSome = true := by kernel_rfl
theorem roundsG : allG 80 okRound = true := by kernel_rfl
end
end Go.Proofs.Ytkbbpjknakajeaa
