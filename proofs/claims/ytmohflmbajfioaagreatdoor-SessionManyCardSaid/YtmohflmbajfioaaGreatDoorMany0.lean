/- SessionMany: what Open and Close answer, from memory to memory, as the kernel reckons it. -/
import Derived.Test.YtmohflmbajfioaaGreatDoorRun
import Derived.Test.YtmohflmbajfioaaGreatDoorAEFresh
namespace Go.Proofs.YtmohflmbajfioaaGreatDoor
open Go Go.AE Go.RowKit
noncomputable section
def setupOf (a b : Value) : Value := .agg #[.int .i64 0, .int .i64 256, .int .i64 32, .int .i64 1, .int .i32 0, a, b, .slice none 0 0, .int .i64 0, .int .i64 0, .int .i64 0, .int .i64 0, .int .i64 0, .int .i64 0]
def EM : Env := mkEnvL Tryz.prog
def SM : Sums := defS EM 2000 40 isSlow (freshS 12 [setupOf (topI .i32) (topI .i32)] .i64 0) 2
def cl (f : FuncId) (args : List Value) (m : Mem) : List (Value × Mem) := evCallF EM SM 2000 40 (.fn f) args m
/-- a registry, and the memory that it stands in -/
def startOf (l : List (Value × Mem)) : Option (Nat × Mem) :=
  match l with
  | [(.tuple vs, m)] => match vs.toList with
    | [.pointer (some ⟨b, 0, none⟩), .int .i64 0] => some (b, m)
    | _ => none
  | _ => none
def begin0 : Option (Nat × Mem) := startOf (cl 6 [setupOf (.int .i32 0) (.int .i32 0)] ⟨0, .nil⟩)
def b0 : Nat := match begin0 with | some r => r.1 | none => 0
def m0 : Mem := match begin0 with | some r => r.2 | none => ⟨0, .nil⟩
def rv : Value := .pointer (some ⟨b0, 0, none⟩)
def keyV (a b : Nat) : Value := .agg #[.int .i32 (.ofNat a), .int .i32 (.ofNat b)]
def openedOf (l : List (Value × Mem)) : Option (Int × Mem) :=
  match l with
  | [(.tuple vs, m)] => match vs.toList with
    | [_, .int .i64 e] => some (e, m)
    | _ => none
  | _ => none
def openF (m : Mem) (a b : Nat) : Option (Int × Mem) := openedOf (cl 7 [rv, keyV a b] m)
def closedOf (l : List (Value × Mem)) : Option (Bool × Mem) :=
  match l with
  | [(.bool t, m)] => some (t, m)
  | _ => none
def closeF (m : Mem) (a b : Nat) : Option (Bool × Mem) := closedOf (cl 8 [rv, keyV a b] m)
def nextM (i : Nat) (m : Mem) : Mem := match openF m (i % 5) i with | some r => r.2 | none => m
/-- the memory when so many keys have been asked for -/
def mseq (i : Nat) : Mem := @Nat.rec (fun _ => Mem) m0 nextM i
def okOpen (i : Nat) : Bool :=
  match openF (mseq i) (i % 5) i with
  | some r => cond (Nat.blt i 16) (r.1 == 0) (r.1 == 12)
  | none => false
def okEnd (j : Nat) (t : Bool) (r : Option (Int × Mem)) : Bool :=
  match r with
  | some r => cond (t || Nat.blt j 16) (r.1 == 0) (r.1 == 12)
  | none => false
def okClose2 (j c : Nat) (t : Bool) (r : Option (Bool × Mem)) : Bool :=
  match r with
  | some (false, m) => okEnd j t (openF m 9 0)
  | _ => false
def okClose (j c : Nat) : Bool :=
  match closeF (mseq j) (c % 5) c with
  | some (t, m) => cond (t == Nat.blt c (cond (Nat.blt j 16) j 16)) (okClose2 j c t (closeF m (c % 5) c)) false
  | none => false
def allB (n : Nat) (p : Nat → Bool) : Bool := @Nat.rec (fun _ => Bool) true (fun i r => cond (p i) r false) n
theorem allB_spec {p : Nat → Bool} : ∀ {n : Nat}, allB n p = true → ∀ i, i < n → p i = true := by
  intro n
  induction n with
  | zero => intro _ i hi; omega
  | succ n ih =>
    intro h i hi
    have h : cond (p n) (allB n p) false = true := h
    cases hp : p n with
    | false => rw [hp] at h; cases h
    | true =>
      rw [hp] at h
      rcases Nat.lt_or_ge i n with h1 | h1
      · exact ih h i h1
      · obtain rfl : i = n := by omega
        exact hp
set_option maxRecDepth 1000000
theorem world_made : chkNew (evCallF (mkEnvL Tryz.prog) noSums 2000 40 (.fn 12) [setupOf (topI .i32) (topI .i32)] ⟨0, .nil⟩) .i64 0 = true := by kernel_rfl
theorem begun : begin0.isSome = true := by kernel_rfl
theorem opens : allB 25 okOpen = true := by kernel_rfl
end
end Go.Proofs.YtmohflmbajfioaaGreatDoor
