/- The evaluator, made fast for the kernel: instructions. It says what the evaluator says. -/
import Derived.Test.YtpbhfckefmboaaaGreatDoorGp41
set_option linter.unusedVariables false
set_option linter.unusedSimpArgs false
set_option linter.unusedSectionVars false
namespace Go.AE
noncomputable section
def b1 {α γ : Type} (x : α) (f : α → List γ) : List γ := f x
def b2 {α γ : Type} (y : α) (l : List α) (_ : α → (α → List γ) → List γ) (x : α) (f : α → List γ) : List γ := bindL (x :: y :: l) f
def b3 {α γ : Type} (_ : α → List γ) : List γ := []
def b4 {α γ : Type} (x : α) (l : List α) (_ : (α → List γ) → List γ) (f : α → List γ) : List γ := @List.rec α (fun _ => α → (α → List γ) → List γ) b1 b2 l x f
def bindF {α γ : Type} (l : List α) (f : α → List γ) : List γ := @List.rec α (fun _ => (α → List γ) → List γ) b3 b4 l f
theorem bindF_eq {α γ : Type} (l : List α) (f : α → List γ) : bindF l f = bindL l f := by
  cases l with
  | nil => rfl
  | cons x l => cases l <;> rfl
def stepK (call : CallF) (N : Nat) (d : Option Tmp) (k : KT) (t : T Value) (m : Mem) : Out → RT
  | .val v => k (put N t d v) m
  | .new ob mk => k (put N t d (mk.val m.n)) ⟨m.n + 1, m.t.set m.n ob⟩
  | .eff v m => k (put N t d v) m
  | .enter f args => bindL (call f args m) fun r => k (put N t d r.1) r.2
def genB (E : Env) (call : CallF) (N : Nat) (o : Oper) (k : KT) (t : T Value) (m : Mem) : RT := bindL (evOp E (evalT t) o m) (stepK call N o.dst k t m)
/-! the same, fast -/
abbrev SK := CallF → Option Pos → KT → T Value → Mem → RT
def kVal (v : Value) : SK := fun _ d k t m => k (putP t d v) m
def kNew2 (ob : AObj) (mk : Mk) (d : Option Pos) (k : KT) (t : T Value) (m : Mem) (b : Nat) : RT := k (putP t d (mk.val b)) ⟨Nat.succ b, m.t.setP (posOf b) ob⟩
def kNew (ob : AObj) (mk : Mk) : SK := fun _ d k t m => forceN m.n (kNew2 ob mk d k t m)
def kEff (v : Value) (m' : Mem) : SK := fun _ d k t _ => k (putP t d v) m'
def kRet (d : Option Pos) (k : KT) (t : T Value) (r : Value × Mem) : RT := k (putP t d r.1) r.2
def kEnter (f : Tgt) (args : List Value) : SK := fun call d k t m => bindF (call f args m) (kRet d k t)
def stepF (call : CallF) (d : Option Pos) (k : KT) (t : T Value) (m : Mem) (out : Out) : RT := @Out.rec (fun _ => SK) kVal kNew kEff kEnter out call d k t m
theorem stepF_eq (call : CallF) (N : Nat) (d : Option Tmp) (k : KT) (t : T Value) (m : Mem) (out : Out) : stepF call (dstOf N d) k t m out = stepK call N d k t m out := by
  cases out with
  | val v => show k (putP t (dstOf N d) v) m = _; rw [putP_eq]; rfl
  | new ob mk =>
    show forceN m.n (kNew2 ob mk (dstOf N d) k t m) = _
    rw [forceN_eq]
    show k (putP t (dstOf N d) (mk.val m.n)) ⟨m.n + 1, m.t.setP (posOf m.n) ob⟩ = _
    rw [putP_eq, T.setP_of]; rfl
  | eff v m' => show k (putP t (dstOf N d) v) m' = _; rw [putP_eq]; rfl
  | enter f args =>
    show bindF (call f args m) (kRet (dstOf N d) k t) = bindL (call f args m) fun r => k (put N t d r.1) r.2
    rw [bindF_eq]
    congr 1
    funext r
    show k (putP t (dstOf N d) r.1) r.2 = _
    rw [putP_eq]
def genF (E : Env) (call : CallF) (d : Option Pos) (o : Oper) (k : KT) (t : T Value) (m : Mem) : RT := bindF (evOpF E o t m) (stepF call d k t m)
theorem genF_eq (E : Env) (call : CallF) (N : Nat) (o : Oper) (k : KT) (t : T Value) (m : Mem) : genF E call (dstOf N o.dst) o k t m = genB E call N o k t m := by
  unfold genF genB
  rw [bindF_eq, evOpF_eq]
  congr 1
  funext out
  exact stepF_eq call N o.dst k t m out
/-! integers -/
def ie1 (b a : Nat) : Bool := Nat.beq a b
def ieN (_ _ : Nat) : Bool := false
def ieA (a : Nat) (b : Int) : Bool := @Int.rec (fun _ => Nat → Bool) ie1 ieN b a
def ieB (a : Nat) (b : Int) : Bool := @Int.rec (fun _ => Nat → Bool) ieN ie1 b a
def iEq (a b : Int) : Bool := @Int.rec (fun _ => Int → Bool) ieA ieB a b
def il1 (b a : Nat) : Bool := Nat.blt a b
def il2 (b a : Nat) : Bool := Nat.blt b a
def ilT (_ _ : Nat) : Bool := true
def ilA (a : Nat) (b : Int) : Bool := @Int.rec (fun _ => Nat → Bool) il1 ieN b a
def ilB (a : Nat) (b : Int) : Bool := @Int.rec (fun _ => Nat → Bool) ilT il2 b a
def iLt (a b : Int) : Bool := @Int.rec (fun _ => Int → Bool) ilA ilB a b
def limOf (k : IntKind) : Nat := @IntKind.rec (fun _ => Nat) 127 32767 2147483647 9223372036854775807 127 32767 2147483647 9223372036854775807 k
def ia1 (y x : Nat) (k : IntKind) (a b : Int) : Int := @Bool.rec (fun _ => Int) (k.wrap (a + b)) (.ofNat (Nat.add x y)) (Nat.ble (Nat.add x y) (limOf k))
def iaN (_ _ : Nat) (k : IntKind) (a b : Int) : Int := k.wrap (a + b)
def iaA (x : Nat) (k : IntKind) (a b : Int) : Int := @Int.rec (fun _ => Nat → IntKind → Int → Int → Int) ia1 iaN b x k a b
def iaB (_ : Nat) (k : IntKind) (a b : Int) : Int := k.wrap (a + b)
def iAdd (k : IntKind) (a b : Int) : Int := @Int.rec (fun _ => IntKind → Int → Int → Int) iaA iaB a k a b
def is2 (x y : Nat) (k : IntKind) (a b : Int) : Int := @Bool.rec (fun _ => Int) (k.wrap (a - b)) (.ofNat (Nat.sub x y)) (Nat.ble x (limOf k))
def is1 (y x : Nat) (k : IntKind) (a b : Int) : Int := @Bool.rec (fun _ => Int) (k.wrap (a - b)) (is2 x y k a b) (Nat.ble y x)
def isN (_ _ : Nat) (k : IntKind) (a b : Int) : Int := k.wrap (a - b)
def isA (x : Nat) (k : IntKind) (a b : Int) : Int := @Int.rec (fun _ => Nat → IntKind → Int → Int → Int) is1 isN b x k a b
def isB (_ : Nat) (k : IntKind) (a b : Int) : Int := k.wrap (a - b)
def iSub (k : IntKind) (a b : Int) : Int := @Int.rec (fun _ => IntKind → Int → Int → Int) isA isB a k a b
theorem iEq_eq (a b : Int) : iEq a b = (a == b) := by
  cases a <;> cases b <;> rename_i x y
  · show Nat.beq x y = _
    cases h : Nat.beq x y with
    | true => simp [Nat.eq_of_beq_eq_true h]
    | false =>
      have := Nat.ne_of_beq_eq_false h
      symm
      rw [beq_eq_false_iff_ne]
      intro e; cases e; exact this rfl
  · rfl
  · rfl
  · show Nat.beq x y = _
    cases h : Nat.beq x y with
    | true => simp [Nat.eq_of_beq_eq_true h]
    | false =>
      have := Nat.ne_of_beq_eq_false h
      symm
      rw [beq_eq_false_iff_ne]
      intro e; cases e; exact this rfl
theorem blt_eq (x y : Nat) : Nat.blt x y = decide (x < y) := by
  by_cases h : x < y
  · rw [decide_eq_true h]; exact Nat.ble_eq_true_of_le h
  · rw [decide_eq_false h]
    cases hb : Nat.blt x y with
    | false => rfl
    | true => exact absurd (Nat.le_of_ble_eq_true hb) h
theorem iLt_eq (a b : Int) : iLt a b = decide (a < b) := by
  cases a <;> cases b <;> rename_i x y
  · show Nat.blt x y = _
    rw [blt_eq]
    congr 1
    exact propext (Int.ofNat_lt.symm)
  · show false = _
    rw [decide_eq_false]
    have : (Int.negSucc y) < 0 := Int.negSucc_lt_zero y
    have : (0 : Int) ≤ Int.ofNat x := Int.natCast_nonneg x
    omega
  · show true = _
    rw [decide_eq_true]
    have : (Int.negSucc x) < 0 := Int.negSucc_lt_zero x
    have : (0 : Int) ≤ Int.ofNat y := Int.natCast_nonneg y
    omega
  · show Nat.blt y x = _
    rw [blt_eq]
    congr 1
    refine propext ?_
    rw [Int.negSucc_eq, Int.negSucc_eq]
    omega
theorem wrap_lim (k : IntKind) (n : Nat) (h : n ≤ limOf k) : k.wrap (n : Int) = (n : Int) := by
  cases k <;> simp [limOf] at h <;> simp [IntKind.wrap, IntKind.bits, IntKind.signed] <;> first | omega | (split <;> omega)
theorem iAdd_eq (k : IntKind) (a b : Int) : iAdd k a b = k.wrap (a + b) := by
  cases a <;> cases b <;> try rfl
  rename_i x y
  show @Bool.rec (fun _ => Int) (k.wrap ((x : Int) + (y : Int))) (.ofNat (Nat.add x y)) (Nat.ble (Nat.add x y) (limOf k)) = k.wrap ((x : Int) + (y : Int))
  cases h : Nat.ble (Nat.add x y) (limOf k) with
  | false => rfl
  | true => exact (wrap_lim k (x + y) (Nat.le_of_ble_eq_true h)).symm
theorem iSub_eq (k : IntKind) (a b : Int) : iSub k a b = k.wrap (a - b) := by
  cases a <;> cases b <;> try rfl
  rename_i x y
  show @Bool.rec (fun _ => Int) (k.wrap ((x : Int) - (y : Int))) (@Bool.rec (fun _ => Int) (k.wrap ((x : Int) - (y : Int))) (.ofNat (Nat.sub x y)) (Nat.ble x (limOf k))) (Nat.ble y x) = k.wrap ((x : Int) - (y : Int))
  cases h : Nat.ble y x with
  | false => rfl
  | true =>
    cases h2 : Nat.ble x (limOf k) with
    | false => rfl
    | true =>
      have h3 := Nat.le_of_ble_eq_true h
      have h4 := Nat.le_of_ble_eq_true h2
      have h5 := wrap_lim k (x - y) (by omega)
      have h6 : ((x - y : Nat) : Int) = (x : Int) - (y : Int) := by omega
      rw [h6] at h5
      show Int.ofNat (x - y) = _
      rw [h5]; exact h6
/-! each instruction -/
abbrev IF := Env → CallF → KT → T Value → Mem → RT
def kB0 (d : Option Pos) (k : KT) (t : T Value) (m : Mem) : RT := k (putP t d (.bool false)) m
def kB1 (d : Option Pos) (k : KT) (t : T Value) (m : Mem) : RT := k (putP t d (.bool true)) m
def boolK (b : Bool) (d : Option Pos) (k : KT) (t : T Value) (m : Mem) : RT := @Bool.rec (fun _ => Option Pos → KT → T Value → Mem → RT) kB0 kB1 b d k t m
theorem boolK_eq (b : Bool) (d : Option Pos) (k : KT) (t : T Value) (m : Mem) : boolK b d k t m = k (putP t d (.bool b)) m := by cases b <;> rfl
def kI (kd : IntKind) (d : Option Pos) (k : KT) (t : T Value) (m : Mem) (r : Int) : RT := k (putP t d (.int kd r)) m
abbrev BF := IntKind → Int → Int → Option Pos → Oper → Env → CallF → KT → T Value → Mem → RT
def bG : BF := fun _ _ _ d o E call k t m => genF E call d o k t m
def bAdd : BF := fun kd a b d _ _ _ k t m => forceI (iAdd kd a b) (kI kd d k t m)
def bSub : BF := fun kd a b d _ _ _ k t m => forceI (iSub kd a b) (kI kd d k t m)
def bEq : BF := fun _ a b d _ _ _ k t m => boolK (iEq a b) d k t m
def bNe : BF := fun _ a b d _ _ _ k t m => boolK (not (iEq a b)) d k t m
def bLt : BF := fun _ a b d _ _ _ k t m => boolK (iLt a b) d k t m
def bLe : BF := fun _ a b d _ _ _ k t m => boolK (not (iLt b a)) d k t m
def bGt : BF := fun _ a b d _ _ _ k t m => boolK (iLt b a) d k t m
def bGe : BF := fun _ a b d _ _ _ k t m => boolK (not (iLt a b)) d k t m
def binI (op : BinOp) : BF := @BinOp.rec (fun _ => BF) bAdd bSub bG bG bG bG bG bG bG bG bG bEq bNe bLt bLe bGt bGe op
def bk0 : IntKind → Int → Int → BinOp → Option Pos → Oper → Env → CallF → KT → T Value → Mem → RT := fun _ _ _ _ d o E call k t m => genF E call d o k t m
def bk1 : IntKind → Int → Int → BinOp → Option Pos → Oper → Env → CallF → KT → T Value → Mem → RT := fun kx a b op d o E call k t m => binI op kx a b d o E call k t m
def bx2 (y : IntKind × Int) (x : IntKind × Int) (op : BinOp) (d : Option Pos) (o : Oper) (E : Env) (call : CallF) (k : KT) (t : T Value) (m : Mem) : RT :=
  @Bool.rec (fun _ => IntKind → Int → Int → BinOp → Option Pos → Oper → Env → CallF → KT → T Value → Mem → RT) bk0 bk1 (sameKind x.1 y.1) x.1 x.2 y.2 op d o E call k t m
def bx0 (_ : IntKind × Int) (_ : BinOp) (d : Option Pos) (o : Oper) (E : Env) (call : CallF) (k : KT) (t : T Value) (m : Mem) : RT := genF E call d o k t m
def bx1 (x : IntKind × Int) (y : Value) (op : BinOp) (d : Option Pos) (o : Oper) (E : Env) (call : CallF) (k : KT) (t : T Value) (m : Mem) : RT :=
  @Option.rec (IntKind × Int) (fun _ => IntKind × Int → BinOp → Option Pos → Oper → Env → CallF → KT → T Value → Mem → RT) bx0 bx2 (asInt y) x op d o E call k t m
def bxN (_ : Value) (_ : BinOp) (d : Option Pos) (o : Oper) (E : Env) (call : CallF) (k : KT) (t : T Value) (m : Mem) : RT := genF E call d o k t m
def rBin (x y : Value) (op : BinOp) (d : Option Pos) (o : Oper) (E : Env) (call : CallF) (k : KT) (t : T Value) (m : Mem) : RT :=
  @Option.rec (IntKind × Int) (fun _ => Value → BinOp → Option Pos → Oper → Env → CallF → KT → T Value → Mem → RT) bxN bx1 (asInt x) y op d o E call k t m
def vk0 (_ : Option Pos) (_ : KT) (_ : T Value) (_ : Mem) : RT := []
def vk1 (v : Value) (d : Option Pos) (k : KT) (t : T Value) (m : Mem) : RT := k (putP t d v) m
def valK (v : Option Value) (d : Option Pos) (k : KT) (t : T Value) (m : Mem) : RT := @Option.rec Value (fun _ => Option Pos → KT → T Value → Mem → RT) vk0 vk1 v d k t m
abbrev RF := Nat → Option Pos → KT → T Value → Mem → RT
def rwN : RF := fun _ _ _ _ _ => []
def rw2 (c : T Value) (off : Nat) (d : Option Pos) (k : KT) (t : T Value) (m : Mem) : RT := valK (c.get off) d k t m
def rw3 (_ : T Value) (_ : Nat) (_ : Option Pos) (_ : KT) (_ : T Value) (_ : Mem) : RT := []
def rwR (c : T Value) (n : Nat) (_ : TypeId) : RF := fun off d k t m => @Bool.rec (fun _ => T Value → Nat → Option Pos → KT → T Value → Mem → RT) rw3 rw2 (Nat.ble (off + 1) n) c off d k t m
def rwM (_ : List MapEntry) (_ : Nat) : RF := rwN
def rwS (_ : ByteArray) (_ : Nat) : RF := rwN
def rwI (_ : Option Nat) (_ : Nat) (_ : List Nat) (_ : Nat) : RF := rwN
def rwL (_ : T Value) (_ : Nat) (_ : Array Tmp) (_ _ : Code) : RF := rwN
def rwO (o : AObj) : RF := @AObj.rec (fun _ => RF) rwR rwM rwS rwI rwL rwN o
def ldP (a : Addr) (d : Option Pos) (k : KT) (t : T Value) (m : Mem) : RT := @Option.rec AObj (fun _ => RF) rwN rwO (m.t.get a.block) a.off d k t m
def rLoad1 (x : Value) (d : Option Pos) (k : KT) (t : T Value) (m : Mem) : RT := @Option.rec Addr (fun _ => Option Pos → KT → T Value → Mem → RT) vk0 ldP (asPtr x) d k t m
def fa2 (a : Addr) (d : Option Pos) (k : KT) (t : T Value) (m : Mem) (q : Nat) : RT := k (putP t d (.pointer (some ⟨a.block, q, none⟩))) m
def fa1 (a : Addr) (off : Nat) (d : Option Pos) (k : KT) (t : T Value) (m : Mem) : RT := forceN (Nat.add a.off off) (fa2 a d k t m)
def fa0 (_ : Nat) (_ : Option Pos) (_ : KT) (_ : T Value) (_ : Mem) : RT := []
def rFa (x : Value) (off : Nat) (d : Option Pos) (k : KT) (t : T Value) (m : Mem) : RT := @Option.rec Addr (fun _ => Nat → Option Pos → KT → T Value → Mem → RT) fa0 fa1 (asPtr x) off d k t m
def nc0 (d : Option Pos) (o : Oper) (E : Env) (call : CallF) (k : KT) (t : T Value) (m : Mem) : RT := genF E call d o k t m
def nc1 (a : Addr) (d : Option Pos) (_ : Oper) (_ : Env) (_ : CallF) (k : KT) (t : T Value) (m : Mem) : RT := k (putP t d (.pointer (some a))) m
def rNc (x : Value) (d : Option Pos) (o : Oper) (E : Env) (call : CallF) (k : KT) (t : T Value) (m : Mem) : RT :=
  @Option.rec Addr (fun _ => Option Pos → Oper → Env → CallF → KT → T Value → Mem → RT) nc0 nc1 (asPtr x) d o E call k t m
def pk0 (_ y : Opd) (d : Option Pos) (k : KT) (t : T Value) (m : Mem) : RT := k (putP t d (y.ev t)) m
def pk1 (x _ : Opd) (d : Option Pos) (k : KT) (t : T Value) (m : Mem) : RT := k (putP t d (x.ev t)) m
def pkB (b : Bool) (x y : Opd) (d : Option Pos) (_ : Oper) (_ : Env) (_ : CallF) (k : KT) (t : T Value) (m : Mem) : RT := @Bool.rec (fun _ => Opd → Opd → Option Pos → KT → T Value → Mem → RT) pk0 pk1 b x y d k t m
def pkN (_ _ : Opd) (d : Option Pos) (o : Oper) (E : Env) (call : CallF) (k : KT) (t : T Value) (m : Mem) : RT := genF E call d o k t m
def rPick (c : Value) (x y : Opd) (d : Option Pos) (o : Oper) (E : Env) (call : CallF) (k : KT) (t : T Value) (m : Mem) : RT :=
  @Option.rec Bool (fun _ => Opd → Opd → Option Pos → Oper → Env → CallF → KT → T Value → Mem → RT) pkN pkB (asBool c) x y d o E call k t m
def nt0 (_ : Nat) : Option Value := none
def ntZ (x : Value) (_ : Nat → Option Value) : Option Value := some x
def ntS (m : Nat) (_ : Value → (Nat → Option Value) → Option Value) (_ : Value) (ih : Nat → Option Value) : Option Value := ih m
def nt1 (x : Value) (_ : List Value) (ih : Nat → Option Value) (n : Nat) : Option Value := @Nat.rec (fun _ => Value → (Nat → Option Value) → Option Value) ntZ ntS n x ih
def nthF (l : List Value) (n : Nat) : Option Value := @List.rec Value (fun _ => Nat → Option Value) nt0 nt1 l n
theorem nthF_eq : ∀ (l : List Value) (n : Nat), nthF l n = l[n]?
  | [], _ => rfl
  | _ :: _, 0 => rfl
  | _ :: l, n + 1 => (nthF_eq l n).trans (by simp)
def ex0 (_ : Nat) (_ : Option Pos) (_ : KT) (_ : T Value) (_ : Mem) : RT := []
def ex1 (vs : Array Value) (i : Nat) (d : Option Pos) (k : KT) (t : T Value) (m : Mem) : RT := valK (nthF vs.toList i) d k t m
def rEx (x : Value) (i : Nat) (d : Option Pos) (k : KT) (t : T Value) (m : Mem) : RT := @Option.rec (Array Value) (fun _ => Nat → Option Pos → KT → T Value → Mem → RT) ex0 ex1 (asTup x) i d k t m
def al2 (ob : AObj) (d : Option Pos) (k : KT) (t : T Value) (m : Mem) (b : Nat) : RT := k (putP t d (.pointer (some ⟨b, 0, none⟩))) ⟨Nat.succ b, m.t.setP (posOf b) ob⟩
def rAlloc (ob : AObj) (d : Option Pos) (k : KT) (t : T Value) (m : Mem) : RT := forceN m.n (al2 ob d k t m)
def el0 (_ : T Value) : List Value := []
def el1 (x : Opd) (_ : List Opd) (ih : T Value → List Value) (t : T Value) : List Value := x.ev t :: ih t
def evL (l : List Opd) (t : T Value) : List Value := @List.rec Opd (fun _ => T Value → List Value) el0 el1 l t
/-- instructions; each that falls back bears the operation -/
inductive Ins where
  | mv (d : Option Pos) (x : Opd)
  | bin (d : Option Pos) (o : Oper) (op : BinOp) (x y : Opd)
  | load1 (d : Option Pos) (x : Opd)
  | fa (d : Option Pos) (off : Nat) (x : Opd)
  | nc (d : Option Pos) (o : Oper) (x : Opd)
  | pick (d : Option Pos) (o : Oper) (c x y : Opd)
  | ex (d : Option Pos) (x : Opd) (i : Nat)
  | alloc (d : Option Pos) (ob : AObj)
  | call (d : Option Pos) (f : FuncId) (args : List Opd)
  | gen (d : Option Pos) (o : Oper)
  | grd (q : Pos) (want : Bool) (d : Option Pos) (i : Ins)
  | bad
def iMv (d : Option Pos) (x : Opd) : IF := fun _ _ k t m => k (putP t d (x.ev t)) m
def iBin (d : Option Pos) (o : Oper) (op : BinOp) (x y : Opd) : IF := fun E call k t m => rBin (x.ev t) (y.ev t) op d o E call k t m
def iLoad1 (d : Option Pos) (x : Opd) : IF := fun _ _ k t m => rLoad1 (x.ev t) d k t m
def iFa (d : Option Pos) (off : Nat) (x : Opd) : IF := fun _ _ k t m => rFa (x.ev t) off d k t m
def iNc (d : Option Pos) (o : Oper) (x : Opd) : IF := fun E call k t m => rNc (x.ev t) d o E call k t m
def iPick (d : Option Pos) (o : Oper) (c x y : Opd) : IF := fun E call k t m => rPick (c.ev t) x y d o E call k t m
def iEx (d : Option Pos) (x : Opd) (i : Nat) : IF := fun _ _ k t m => rEx (x.ev t) i d k t m
def iAlloc (d : Option Pos) (ob : AObj) : IF := fun _ _ k t m => rAlloc ob d k t m
def iCall (d : Option Pos) (f : FuncId) (args : List Opd) : IF := fun _ call k t m => bindF (call (.fn f) (evL args t) m) (kRet d k t)
def iGen (d : Option Pos) (o : Oper) : IF := fun E call k t m => genF E call d o k t m
abbrev GF := Bool → Option Pos → IF → IF
def gSkip (d : Option Pos) (_ : IF) : IF := fun _ _ k t m => k (putP t d und) m
def gRun (_ : Option Pos) (i : IF) : IF := i
def gB (b : Bool) : Option GF := some fun want d i => @Bool.rec (fun _ => Option Pos → IF → IF) gSkip gRun (@Bool.rec (fun _ => Bool → Bool) not id b want) d i
def gT (_ : Array Value) : Option GF := some fun _ d i => gSkip d i
def gNo : GF := fun _ _ _ _ _ _ _ _ => []
def gId (g : GF) : GF := g
def gV (v : Value) : GF := @Option.rec GF (fun _ => GF) gNo gId (pick4 gB no2 no1 gT v)
def iGrd (q : Pos) (want : Bool) (d : Option Pos) (_ : Ins) (ih : IF) : IF := fun E call k t m => @Option.rec Value (fun _ => GF) gNo gV (t.getP q) want d ih E call k t m
def iBad : IF := fun _ _ _ _ _ => []
def Ins.run (i : Ins) : IF := @Ins.rec (fun _ => IF) iMv iBin iLoad1 iFa iNc iPick iEx iAlloc iCall iGen iGrd iBad i
section
variable (E : Env) (call : CallF) (N : Nat) (ops : Array Oper)
def genStep (o : Oper) (k : KT) (t : T Value) (m : Mem) : RT :=
  match wanted ops o t with
  | none => []
  | some false => k (put N t o.dst und) m
  | some true => genB E call N o k t m
def isLoad1 (t : TypeId) : Bool :=
  match E.types.get t with
  | some ti => match agg? ti.desc, ti.size with
    | false, 1 => true
    | _, _ => false
  | none => false
def faOff (t : TypeId) (f : Nat) : Option Nat :=
  match E.types.get t with
  | some ti => match ti.desc with
    | .struct fs => match fs[f]? with
      | some fd => match E.types.get fd.type with
        | some tf => match tf.size with
          | 0 => none
          | _ => some fd.offset
        | none => none
      | none => none
    | _ => none
  | none => none
def isFn (f : FuncId) : Bool := match E.funcs.get f with | some _ => true | none => false
def insOf (o : Oper) : Ins :=
  match o.op with
  | .move x | .assign x => .mv (dstOf N o.dst) (opdOf x)
  | .binOp op _ x y _ => .bin (dstOf N o.dst) o op (opdOf x) (opdOf y)
  | .load ty x => match isLoad1 E ty with
    | true => .load1 (dstOf N o.dst) (opdOf x)
    | false => .gen (dstOf N o.dst) o
  | .fieldAddr ty x f => match faOff E ty f with
    | some off => .fa (dstOf N o.dst) off (opdOf x)
    | none => .gen (dstOf N o.dst) o
  | .nilCheck x => .nc (dstOf N o.dst) o (opdOf x)
  | .pick c x y => .pick (dstOf N o.dst) o (opdOf c) (opdOf x) (opdOf y)
  | .extract x i => .ex (dstOf N o.dst) (opdOf x) i
  | .alloc ty => match E.types.get ty with
    | some ti => .alloc (dstOf N o.dst) (newRow ty ti.zero)
    | none => .gen (dstOf N o.dst) o
  | .call c => match c.callee with
    | .value (.func f) => match isFn E f with
      | true => .call (dstOf N o.dst) f (c.args.toList.map opdOf)
      | false => .gen (dstOf N o.dst) o
    | _ => .gen (dstOf N o.dst) o
  | _ => .gen (dstOf N o.dst) o
def comp (o : Oper) : Ins :=
  match o.guard with
  | none => insOf E N o
  | some (j, want) => match ops.toList[j]? with
    | some p => match p.dst with
      | some d => .grd (posOf d) want (dstOf N o.dst) (insOf E N o)
      | none => .bad
    | none => .bad
end
abbrev LF := Env → CallF → KT
def rl0 : LF := fun _ _ t m => [(t, m)]
def rl1 (i : Ins) (_ : List Ins) (ih : LF) : LF := fun E call t m => i.run E call (ih E call) t m
def runL (l : List Ins) : LF := @List.rec Ins (fun _ => LF) rl0 rl1 l
section
variable (E : Env) (call : CallF) (N : Nat) (ops : Array Oper)
theorem genB_val {o : Oper} {v : Value} (k : KT) (t : T Value) (m : Mem) (h : evOp E (evalT t) o m = [.val v]) : genB E call N o k t m = k (put N t o.dst v) m := by
  unfold genB; rw [h]; rfl
theorem genB_nil {o : Oper} (k : KT) (t : T Value) (m : Mem) (h : evOp E (evalT t) o m = []) : genB E call N o k t m = [] := by
  unfold genB; rw [h]; rfl
theorem genB_valO {o : Oper} {v : Option Value} (k : KT) (t : T Value) (m : Mem) (h : evOp E (evalT t) o m = valO v) : genB E call N o k t m = valK v (dstOf N o.dst) k t m := by
  cases v with
  | none => rw [genB_nil E call N k t m h]; rfl
  | some v => rw [genB_val E call N k t m h, ← putP_eq]; rfl
theorem evOp_op {o : Oper} {op : Op} (h : o.op = op) (ρ : Operand → Value) (m : Mem) : evOp E ρ o m = evOp E ρ { o with op := op } m := by subst h; rfl
theorem bin_run {o : Oper} {op : BinOp} {xt yt : TypeId} {x y : Operand} (h : o.op = .binOp op xt x y yt) (k : KT) (t : T Value) (m : Mem) :
    rBin (evalT t x) (evalT t y) op (dstOf N o.dst) o E call k t m = genB E call N o k t m := by
  have hg : genF E call (dstOf N o.dst) o k t m = genB E call N o k t m := genF_eq E call N o k t m
  have hev : evOp E (evalT t) o m = valO (binopC E op xt (isConst x || isConst y) (evalT t x) (evalT t y)) := by rw [evOp_op E h]; rfl
  generalize evalT t x = vx at hev ⊢
  generalize evalT t y = vy at hev ⊢
  cases vx <;> try exact hg
  cases vy <;> try exact hg
  rename_i kx a ky b
  show @Bool.rec (fun _ => IntKind → Int → Int → BinOp → Option Pos → Oper → Env → CallF → KT → T Value → Mem → RT) bk0 bk1 (sameKind kx ky) kx a b op (dstOf N o.dst) o E call k t m = _
  cases hk : sameKind kx ky with
  | false => exact hg
  | true =>
    show binI op kx a b (dstOf N o.dst) o E call k t m = _
    have hb : binopC E op xt (isConst x || isConst y) (.int kx a) (.int ky b) = match isShift op with | true => shift op kx a b | false => intBin op kx a b := by
      have h2 : binop E op xt (.int kx a) (.int ky b) = match isShift op with | true => shift op kx a b | false => match sameKind kx ky with | true => intBin op kx a b | false => none := rfl
      have h3 : ∀ c, binopC E op xt c (.int kx a) (.int ky b) = binop E op xt (.int kx a) (.int ky b) := fun c => by cases c <;> rfl
      rw [h3, h2, hk]
    rw [hb] at hev
    cases op <;> first
      | exact hg
      | (rw [genB_val E call N k t m (v := .int kx (kx.wrap (a + b))) hev, ← putP_eq, ← iAdd_eq]; exact forceI_eq (iAdd kx a b) (kI kx (dstOf N o.dst) k t m))
      | (rw [genB_val E call N k t m (v := .int kx (kx.wrap (a - b))) hev, ← putP_eq, ← iSub_eq]; exact forceI_eq (iSub kx a b) (kI kx (dstOf N o.dst) k t m))
      | (rw [genB_val E call N k t m (v := .bool (a == b)) hev, ← putP_eq, ← iEq_eq]; exact boolK_eq _ _ _ _ _)
      | (rw [genB_val E call N k t m (v := .bool (a != b)) hev, ← putP_eq]; show _ = k (putP t _ (.bool (not (a == b)))) m; rw [← iEq_eq]; exact boolK_eq _ _ _ _ _)
      | (rw [genB_val E call N k t m (v := .bool (decide (a < b))) hev, ← putP_eq, ← iLt_eq]; exact boolK_eq _ _ _ _ _)
      | (rw [genB_val E call N k t m (v := .bool (decide (a > b))) hev, ← putP_eq]; show _ = k (putP t _ (.bool (decide (b < a)))) m; rw [← iLt_eq]; exact boolK_eq _ _ _ _ _)
      | (rw [genB_val E call N k t m (v := .bool (decide (a ≤ b))) hev, ← putP_eq]
         have e : decide (a ≤ b) = not (iLt b a) := by rw [iLt_eq]; by_cases q : a ≤ b <;> simp [q] <;> omega
         rw [e]; exact boolK_eq _ _ _ _ _)
      | (rw [genB_val E call N k t m (v := .bool (decide (a ≥ b))) hev, ← putP_eq]
         have e : decide (a ≥ b) = not (iLt a b) := by rw [iLt_eq]; by_cases q : a ≥ b <;> simp [q] <;> omega
         rw [e]; exact boolK_eq _ _ _ _ _)
theorem load_run {o : Oper} {ty : TypeId} {x : Operand} (h : o.op = .load ty x) (hl : isLoad1 E ty = true) (k : KT) (t : T Value) (m : Mem) :
    rLoad1 (evalT t x) (dstOf N o.dst) k t m = genB E call N o k t m := by
  have hev : evOp E (evalT t) o m = (match evalT t x with | .pointer (some a) => valO (loadAt E ty a m) | _ => []) := by rw [evOp_op E h]; rfl
  generalize evalT t x = vx at hev ⊢
  cases vx with
  | pointer a =>
    cases a with
    | none => rw [genB_nil E call N k t m hev]; rfl
    | some a =>
      rw [genB_valO E call N k t m hev]
      unfold isLoad1 at hl
      split at hl
      · rename_i ti hti
        split at hl
        · rename_i hag hsz
          show @Option.rec AObj (fun _ => RF) rwN rwO (m.t.get a.block) a.off (dstOf N o.dst) k t m = _
          unfold loadAt
          rw [hti]
          cases hg : m.t.get a.block with
          | none => rfl
          | some ob =>
            cases ob with
            | row cells n e =>
              simp only [hag, hsz]
              show @Bool.rec (fun _ => T Value → Nat → Option Pos → KT → T Value → Mem → RT) rw3 rw2 (Nat.ble (a.off + 1) n) cells a.off (dstOf N o.dst) k t m = _
              cases Nat.ble (a.off + 1) n <;> rfl
            | _ => rfl
        · cases hl
      · cases hl
  | _ => rw [genB_nil E call N k t m hev]; rfl
theorem fa_run {o : Oper} {ty : TypeId} {x : Operand} {f off : Nat} (h : o.op = .fieldAddr ty x f) (hl : faOff E ty f = some off) (k : KT) (t : T Value) (m : Mem) :
    rFa (evalT t x) off (dstOf N o.dst) k t m = genB E call N o k t m := by
  have hev : evOp E (evalT t) o m = valO (fieldAddrA E ty (evalT t x) f) := by rw [evOp_op E h]; rfl
  generalize evalT t x = vx at hev ⊢
  rw [genB_valO E call N k t m hev]
  unfold faOff at hl
  split at hl
  · rename_i ti hti
    split at hl
    · rename_i fs hd
      split at hl
      · rename_i fd hfd
        split at hl
        · rename_i tf htf
          split at hl
          · cases hl
          · rename_i hsz
            cases hl
            unfold fieldAddrA
            rw [hti]
            cases vx with
            | pointer a =>
              cases a with
              | none => rfl
              | some a =>
                simp only [hd, hfd, htf]
                cases hz : tf.size with
                | zero => exact absurd hz (by simpa using hsz)
                | succ n => exact forceN_eq (Nat.add a.off fd.offset) (fa2 a (dstOf N o.dst) k t m)
            | _ => rfl
        · cases hl
      · cases hl
    · cases hl
  · cases hl
theorem nc_run {o : Oper} {x : Operand} (h : o.op = .nilCheck x) (k : KT) (t : T Value) (m : Mem) : rNc (evalT t x) (dstOf N o.dst) o E call k t m = genB E call N o k t m := by
  have hg : genF E call (dstOf N o.dst) o k t m = genB E call N o k t m := genF_eq E call N o k t m
  have hx : ∀ a, evalT t x = .pointer (some a) → evOp E (evalT t) o m = [.val (.pointer (some a))] := fun a ha => by
    rw [evOp_op E h]
    show (match evalT t x with | .pointer (some a) => [Out.val (.pointer (some a))] | .func (.func g) a b => [.val (.func (.func g) a b)] | .func (.method name) a b => _ | .iface t v => [.val (.iface t v)] | .complex .f32 7 i => [.val (yld i)] | _ => []) = _
    rw [ha]
  generalize hv : evalT t x = vx
  cases vx with
  | pointer a =>
    cases a with
    | none => exact hg
    | some a => rw [genB_val E call N k t m (hx a hv), ← putP_eq]; rfl
  | _ => exact hg
theorem pick_run {o : Oper} {c x y : Operand} (h : o.op = .pick c x y) (k : KT) (t : T Value) (m : Mem) : rPick (evalT t c) (opdOf x) (opdOf y) (dstOf N o.dst) o E call k t m = genB E call N o k t m := by
  have hg : genF E call (dstOf N o.dst) o k t m = genB E call N o k t m := genF_eq E call N o k t m
  have hx : ∀ b, evalT t c = .bool b → evOp E (evalT t) o m = [.val (cond b (evalT t x) (evalT t y))] := fun a ha => by
    rw [evOp_op E h]
    show (match evalT t c with | .bool b => [Out.val (cond b (evalT t x) (evalT t y))] | .complex .f32 1 0 => _ | _ => []) = _
    rw [ha]
  generalize hv : evalT t c = vc
  cases vc with
  | bool b =>
    rw [genB_val E call N k t m (hx b hv), ← putP_eq]
    cases b
    · show k (putP t _ ((opdOf y).ev t)) m = _; rw [opdOf_ev]; rfl
    · show k (putP t _ ((opdOf x).ev t)) m = _; rw [opdOf_ev]; rfl
  | _ => exact hg
theorem ex_run {o : Oper} {x : Operand} {i : Nat} (h : o.op = .extract x i) (k : KT) (t : T Value) (m : Mem) : rEx (evalT t x) i (dstOf N o.dst) k t m = genB E call N o k t m := by
  have hev : evOp E (evalT t) o m = (match evalT t x with | .tuple vs => (match vs.toList[i]? with | some v => [.val v] | none => []) | _ => []) := by rw [evOp_op E h]; rfl
  generalize evalT t x = vx at hev ⊢
  cases vx with
  | tuple vs =>
    show valK (nthF vs.toList i) _ k t m = _
    rw [nthF_eq]
    cases hg : vs.toList[i]? with
    | none => simp only [hg] at hev; rw [genB_nil E call N k t m hev]; rfl
    | some v => simp only [hg] at hev; rw [genB_val E call N k t m hev, ← putP_eq]; rfl
  | _ => rw [genB_nil E call N k t m hev]; rfl
theorem alloc_run {o : Oper} {ty : TypeId} {ti : TI} (h : o.op = .alloc ty) (hti : E.types.get ty = some ti) (k : KT) (t : T Value) (m : Mem) : rAlloc (newRow ty ti.zero) (dstOf N o.dst) k t m = genB E call N o k t m := by
  have hev : evOp E (evalT t) o m = [.new (newRow ty ti.zero) .ptr] := by
    rw [evOp_op E h]
    show (match E.types.get ty with | some ti => [Out.new (newRow ty ti.zero) .ptr] | none => []) = _
    rw [hti]
  unfold genB
  rw [hev]
  show forceN m.n (al2 _ _ _ _ _) = k (put N t o.dst (.pointer (some ⟨m.n, 0, none⟩))) ⟨m.n + 1, m.t.set m.n _⟩
  rw [forceN_eq]
  show k (putP t (dstOf N o.dst) (.pointer (some ⟨m.n, 0, none⟩))) ⟨Nat.succ m.n, m.t.setP (posOf m.n) _⟩ = _
  rw [putP_eq, T.setP_of]
theorem evL_eq (t : T Value) : ∀ (l : List Operand), evL (l.map opdOf) t = l.map (evalT t)
  | [] => rfl
  | x :: l => by
    show (opdOf x).ev t :: evL (l.map opdOf) t = _
    rw [opdOf_ev, evL_eq t l]; rfl
theorem call_run {o : Oper} {c : Call} {f : FuncId} (h : o.op = .call c) (hc : c.callee = .value (.func f)) (hf : isFn E f = true) (k : KT) (t : T Value) (m : Mem) : iCall (dstOf N o.dst) f (c.args.toList.map opdOf) E call k t m = genB E call N o k t m := by
  unfold isFn at hf
  split at hf
  · rename_i fn hfn
    have hev : evOp E (evalT t) o m = [.enter (.fn f) (c.args.toList.map (evalT t))] := by
      rw [evOp_op E h]
      show callA E (evalT t) c m = _
      unfold callA
      rw [hc]
      show (match E.funcs.get f with | some _ => [Out.enter (.fn f) (([] : List Value) ++ c.args.toList.map (evalT t) ++ [])] | none => _) = _
      rw [hfn]
      simp
    unfold genB
    rw [hev]
    show bindF (call (.fn f) (evL (c.args.toList.map opdOf) t) m) (kRet (dstOf N o.dst) k t) = bindL (call (.fn f) (c.args.toList.map (evalT t)) m) (fun r => k (put N t o.dst r.1) r.2)
    rw [bindF_eq, evL_eq]
    congr 1
    funext r
    show k (putP t _ r.1) r.2 = _
    rw [putP_eq]
  · cases hf
theorem insOf_run (o : Oper) (k : KT) (t : T Value) (m : Mem) : (insOf E N o).run E call k t m = genB E call N o k t m := by
  have hg : genF E call (dstOf N o.dst) o k t m = genB E call N o k t m := genF_eq E call N o k t m
  unfold insOf
  split
  · rename_i x h
    show k (putP t _ ((opdOf x).ev t)) m = _
    rw [opdOf_ev, putP_eq, genB_val E call N k t m (v := evalT t x) (by rw [evOp_op E h]; rfl)]
  · rename_i x h
    show k (putP t _ ((opdOf x).ev t)) m = _
    rw [opdOf_ev, putP_eq, genB_val E call N k t m (v := evalT t x) (by rw [evOp_op E h]; rfl)]
  · rename_i op xt x y yt h
    show rBin ((opdOf x).ev t) ((opdOf y).ev t) op _ o E call k t m = _
    rw [opdOf_ev, opdOf_ev]
    exact bin_run E call N h k t m
  · rename_i ty x h
    split
    · rename_i hl
      show rLoad1 ((opdOf x).ev t) _ k t m = _
      rw [opdOf_ev]; exact load_run E call N h hl k t m
    · exact hg
  · rename_i ty x f h
    split
    · rename_i off hl
      show rFa ((opdOf x).ev t) off _ k t m = _
      rw [opdOf_ev]; exact fa_run E call N h hl k t m
    · exact hg
  · rename_i x h
    show rNc ((opdOf x).ev t) _ o E call k t m = _
    rw [opdOf_ev]; exact nc_run E call N h k t m
  · rename_i c x y h
    show rPick ((opdOf c).ev t) _ _ _ o E call k t m = _
    rw [opdOf_ev]; exact pick_run E call N h k t m
  · rename_i x i h
    show rEx ((opdOf x).ev t) i _ k t m = _
    rw [opdOf_ev]; exact ex_run E call N h k t m
  · rename_i ty h
    split
    · rename_i ti hti; exact alloc_run E call N h hti k t m
    · exact hg
  · rename_i c h
    split
    · rename_i f hc
      split
      · rename_i hf; exact call_run E call N h hc hf k t m
      · exact hg
    · exact hg
  · exact hg
def okG (o : Oper) : Bool :=
  match o.guard with
  | none => true
  | some (j, _) => match ops.toList[j]? with
    | some p => match p.dst with
      | some _ => true
      | none => false
    | none => false
theorem comp_run (o : Oper) (k : KT) (t : T Value) (m : Mem) : (comp E N ops o).run E call k t m = genStep E call N ops o k t m := by
  unfold comp
  split
  · rename_i hg
    rw [insOf_run]
    unfold genStep wanted
    rw [hg]
  · rename_i j want hg
    split
    · rename_i p hp
      split
      · rename_i d hd
        show @Option.rec Value (fun _ => GF) gNo gV (t.getP (posOf d)) want (dstOf N o.dst) ((insOf E N o).run) E call k t m = _
        rw [T.getP_of]
        have hi := insOf_run E call N o k t m
        unfold genStep wanted
        rw [hg]
        simp only [hp, hd]
        cases hv : t.get d with
        | none => rfl
        | some v =>
          cases v with
          | bool b => cases b <;> cases want <;> first | exact hi | exact congrArg (k · m) (putP_eq N t o.dst und)
          | tuple vs => exact congrArg (k · m) (putP_eq N t o.dst und)
          | _ => rfl
      · rename_i hd
        unfold genStep wanted
        rw [hg]
        simp only [hp, hd]
        rfl
    · rename_i hp
      unfold genStep wanted
      rw [hg]
      simp only [hp]
      rfl
theorem runL_eq : ∀ (l : List Oper) (t : T Value) (m : Mem), runL (l.map (comp E N ops)) E call t m = evOps E call N ops l t m
  | [], _, _ => rfl
  | o :: l, t, m => by
    show (comp E N ops o).run E call (runL (l.map (comp E N ops)) E call) t m = _
    have hk : runL (l.map (comp E N ops)) E call = evOps E call N ops l := funext fun t => funext fun m => runL_eq l t m
    rw [comp_run, hk]
    unfold genStep
    rw [evOps]
    cases wanted ops o t with
    | none => rfl
    | some b =>
      cases b with
      | false => rfl
      | true =>
        show bindL (evOp E (evalT t) o m) _ = bindL (evOp E (evalT t) o m) _
        first
          | rfl
          | (congr 1
             funext out
             cases out <;> rfl)
end
end
end Go.AE
