/- YtndgbfpcnkmihaaGreatDoorBasePlain; YtndgbfpcnkmihaaGreatDoorInPlain; YtndgbfpcnkmihaaGreatDoorPrPlain; YtndgbfpcnkmihaaGreatDoorWatchPlain: in one text. -/
import Derived.WalkKit
import Derived.Laws.DeepBits32
/- Numbers of bytes, powers of two, logs that may be: what the program and the document reckon, plainly. Plain Lean: no program. -/
namespace Go.Base
open Go
/-- the number of bytes, the lowest first -/
def leN : List Nat → Nat
  | [] => 0
  | b :: l => b + 256 * leN l
theorem leN_lt : ∀ (l : List Nat), (∀ b ∈ l, b < 256) → leN l < 256 ^ l.length
  | [], _ => by simp [leN]
  | b :: l, h => by
    have h1 := leN_lt l (fun x hx => h x (List.mem_cons_of_mem _ hx))
    have h2 := h b (List.mem_cons_self ..)
    simp only [leN, List.length_cons, Nat.pow_succ]
    omega
theorem leN_snoc : ∀ (l : List Nat) (c : Nat), leN (l ++ [c]) = leN l + 256 ^ l.length * c
  | [], c => by simp [leN]
  | b :: l, c => by
    simp only [List.cons_append, leN, List.length_cons, Nat.pow_succ, leN_snoc l c, Nat.mul_add]
    rw [Nat.mul_comm (256 ^ l.length) 256, Nat.mul_assoc]
    omega
/-- laid in from the lowest byte: with or -/
theorem or_step (l : List Nat) (h : ∀ b ∈ l, b < 256) (c : Nat) : leN l ||| c * 2 ^ (8 * l.length) = leN (l ++ [c]) := by
  have h1 : leN l < 2 ^ (8 * l.length) := by
    have := leN_lt l h
    rwa [show (256 : Nat) = 2 ^ 8 by decide, ← Nat.pow_mul] at this
  rw [leN_snoc, show (256 : Nat) = 2 ^ 8 by decide, ← Nat.pow_mul, Nat.or_comm]
  have := Nat.shiftLeft_add_eq_or_of_lt h1 c
  rw [Nat.shiftLeft_eq] at this
  rw [← this, Nat.mul_comm c]
  omega
/-- from the highest byte down -/
theorem leN_drop (l : List Nat) (i : Nat) (c : Nat) (h : l[i]? = some c) : leN (l.drop i) = c + 256 * leN (l.drop (i + 1)) := by
  obtain ⟨hi, he⟩ := List.getElem?_eq_some_iff.1 h
  rw [List.drop_eq_getElem_cons hi, he, leN]
/-- a term's size: a power of two from 256 to 8192 -/
def TermOk (n : Int) : Prop := n = 256 ∨ n = 512 ∨ n = 1024 ∨ n = 2048 ∨ n = 4096 ∨ n = 8192
instance (n : Int) : Decidable (TermOk n) := by unfold TermOk; infer_instance
/-- a log: base, term, mtu, subs -/
def LogOk (base term mtu subs : Int) : Prop := TermOk term ∧ 32 ≤ mtu ∧ mtu ≤ term / 8 ∧ mtu % 32 = 0 ∧ 1 ≤ subs ∧ subs ≤ 8 ∧ 0 ≤ base ∧ base % 8 = 0 ∧ base ≤ 131072 - 3 * term - 128
instance (a b c d : Int) : Decidable (LogOk a b c d) := by unfold LogOk; infer_instance
def powB (m : Nat) : Bool := !(Nat.ble 256 m && Nat.ble m 8192) || ((Nat.beq (m &&& (m - 1)) 0) == (Nat.beq m 256 || Nat.beq m 512 || Nat.beq m 1024 || Nat.beq m 2048 || Nat.beq m 4096 || Nat.beq m 8192))
theorem powB_all : ((List.range 33).all fun a => (List.range 256).all fun b => powB (256 * a + b)) = true := by decide +kernel
/-- a power of two in the bounds is one of six -/
theorem pow_cases (n : Nat) (h0 : 256 ≤ n) (h1 : n ≤ 8192) : (n &&& (n - 1) = 0) ↔ TermOk (n : Int) := by
  have key : powB n = true := by
    have h2 := List.all_eq_true.1 powB_all (n / 256) (List.mem_range.2 (by omega))
    have h3 := List.all_eq_true.1 h2 (n % 256) (List.mem_range.2 (by omega))
    rwa [Nat.div_add_mod] at h3
  have e1 : Nat.ble 256 n = true := by rw [Nat.ble_eq]; exact h0
  have e2 : Nat.ble n 8192 = true := by rw [Nat.ble_eq]; exact h1
  simp only [powB, e1, e2, Bool.and_self, Bool.not_true, Bool.false_or, beq_iff_eq] at key
  unfold TermOk
  constructor
  · intro h
    have h2 : Nat.beq (n &&& (n - 1)) 0 = true := by rw [Nat.beq_eq]; exact h
    rw [h2] at key
    have h3 := key.symm
    simp only [Bool.or_eq_true, Nat.beq_eq] at h3
    omega
  · intro h
    have h3 : (Nat.beq n 256 || Nat.beq n 512 || Nat.beq n 1024 || Nat.beq n 2048 || Nat.beq n 4096 || Nat.beq n 8192) = true := by
      simp only [Bool.or_eq_true, Nat.beq_eq]
      omega
    rw [h3] at key
    rw [Nat.beq_eq] at key
    exact key
end Go.Base

/- Numbers of bytes at a place; the frames of a part. Plain Lean: no program. -/
namespace Go.Base
open Go
/-- the number of n bytes from a place on, the lowest first -/
def numF (B : Nat → Nat) (at_ : Nat) : Nat → Nat
  | 0 => 0
  | n + 1 => B at_ + 256 * numF B (at_ + 1) n
theorem numF_lt {B : Nat → Nat} (h : ∀ j, B j < 256) : ∀ (n a : Nat), numF B a n < 256 ^ n
  | 0, _ => by simp [numF]
  | n + 1, a => by
    have h1 := numF_lt h n (a + 1)
    have h2 := h a
    simp only [numF, Nat.pow_succ]
    omega
theorem numF_snoc (B : Nat → Nat) : ∀ (n a : Nat), numF B a (n + 1) = numF B a n + 256 ^ n * B (a + n)
  | 0, a => by simp [numF]
  | n + 1, a => by
    have h1 := numF_snoc B n (a + 1)
    rw [numF, h1, numF, Nat.mul_add, ← Nat.mul_assoc, Nat.pow_succ, Nat.mul_comm 256 (256 ^ n), show a + 1 + n = a + (n + 1) by omega]
    omega
/-- laid in from the lowest byte: with or -/
theorem numF_or {B : Nat → Nat} (h : ∀ j, B j < 256) (n a : Nat) : numF B a n ||| B (a + n) * 2 ^ (8 * n) = numF B a (n + 1) := by
  have h1 : numF B a n < 2 ^ (8 * n) := by
    have := numF_lt h n a
    rwa [show (256 : Nat) = 2 ^ 8 by decide, ← Nat.pow_mul] at this
  rw [numF_snoc, show (256 : Nat) = 2 ^ 8 by decide, ← Nat.pow_mul, Nat.or_comm]
  have := Nat.shiftLeft_add_eq_or_of_lt h1 (B (a + n))
  rw [Nat.shiftLeft_eq] at this
  rw [← this, Nat.mul_comm (B (a + n))]
  omega
theorem numF_shift (B : Nat → Nat) (k : Nat) : ∀ (n a : Nat), numF (fun j => B (k + j)) a n = numF B (k + a) n
  | 0, _ => rfl
  | n + 1, a => by
    have := numF_shift B k n (a + 1)
    simp only [numF] at this ⊢
    rw [this, show k + (a + 1) = k + a + 1 by omega]
theorem numF_ext {B C : Nat → Nat} : ∀ (n a : Nat), (∀ j, a ≤ j → j < a + n → B j = C j) → numF B a n = numF C a n
  | 0, _, _ => rfl
  | n + 1, a, h => by
    rw [numF, numF, h a (by omega) (by omega), numF_ext n (a + 1) (fun j h1 h2 => h j (by omega) (by omega))]
/-- the bytes of a number -/
theorem byte_num (v : Nat) (a : Nat) : ∀ (k : Nat), numF (fun j => v / 256 ^ j % 256) a k = v / 256 ^ a % 256 ^ k := by
  intro k
  induction k generalizing a with
  | zero => simp [numF, Nat.mod_one]
  | succ k ih =>
    rw [numF, ih (a + 1), Nat.pow_succ 256 k, Nat.mul_comm (256 ^ k) 256, Nat.mod_mul, Nat.pow_succ, ← Nat.div_div_eq_div_mul]
end Go.Base

/- A machine as a tree: what it tells of itself while it waits, the access that it wants, and how it goes on by what it is told. Plain Lean: no program. -/
namespace Go.Pr
/-- an access: kind, place, bytes, value, second value, what is written -/
structure Acc where
  k : Int
  at_ : Int
  n : Int
  v : Int
  w : Int
  b : List Nat
/-- A: what an access tells; O: what the machine tells of itself -/
inductive Pr (A O : Type) where
  | done (o : O)
  | ask (o : O) (a : Acc) (k : A → Pr A O)
variable {A O O' : Type}
namespace Pr
def obs : Pr A O → O
  | .done o => o
  | .ask o _ _ => o
def want : Pr A O → Option Acc
  | .done _ => none
  | .ask _ a _ => some a
/-- behind so many answers; one that is at its end stays there -/
def run : Pr A O → List A → Pr A O
  | p, [] => p
  | .done o, _ :: _ => .done o
  | .ask _ _ k, x :: l => (k x).run l
/-- the answers that are left when it is at its end -/
def left : Pr A O → List A → List A
  | .done _, l => l
  | .ask _ _ _, [] => []
  | .ask _ _ k, x :: l => (k x).left l
theorem run_nil (p : Pr A O) : p.run [] = p := by cases p <;> rfl
theorem run_done (o : O) : ∀ l : List A, (Pr.done o).run l = .done o
  | [] => rfl
  | _ :: _ => rfl
theorem run_append : ∀ (p : Pr A O) (l m : List A), p.run (l ++ m) = (p.run l).run m
  | p, [], m => by rw [List.nil_append, run_nil]
  | .done o, x :: l, m => by rw [run_done, run_done, run_done]
  | .ask _ _ k, x :: l, m => by
    show (k x).run (l ++ m) = ((k x).run l).run m
    exact run_append (k x) l m
/-- one behind the other: f tells of the first one while it waits -/
def bind (p : Pr A O) (f : O → O') (g : O → Pr A O') : Pr A O' :=
  match p with
  | .done o => g o
  | .ask o a k => .ask (f o) a (fun x => (k x).bind f g)
/-- how a bind runs -/
theorem bind_run (f : O → O') (g : O → Pr A O') : ∀ (l : List A) (p : Pr A O), (∃ o, p.run l = .done o ∧ (p.bind f g).run l = (g o).run (p.left l)) ∨ (∃ o a k, p.run l = .ask o a k ∧ (p.bind f g).run l = .ask (f o) a (fun x => (k x).bind f g) ∧ p.left l = [])
  | [], .done o => .inl ⟨o, rfl, by simp [bind, left]⟩
  | [], .ask o a k => .inr ⟨o, a, k, rfl, rfl, rfl⟩
  | x :: l, .done o => .inl ⟨o, rfl, by simp [bind, left]⟩
  | x :: l, .ask o a k => by
    have := bind_run f g l (k x)
    exact this
theorem left_le : ∀ (l : List A) (p : Pr A O), (p.left l).length ≤ l.length
  | [], .done _ => Nat.le_refl _
  | [], .ask .. => Nat.le_refl _
  | _ :: _, .done _ => Nat.le_refl _
  | x :: l, .ask _ _ k => by
    have := left_le l (k x)
    show ((k x).left l).length ≤ _
    simp; omega
/-- what is left is the answers' end -/
theorem left_drop : ∀ (l : List A) (p : Pr A O), p.left l = l.drop (l.length - (p.left l).length)
  | [], .done _ => rfl
  | [], .ask .. => rfl
  | x :: l, .done _ => by simp [left]
  | x :: l, .ask _ _ k => by
    have h := left_drop l (k x)
    have h2 := left_le l (k x)
    show (k x).left l = (x :: l).drop ((x :: l).length - ((k x).left l).length)
    rw [show (x :: l).length - ((k x).left l).length = (l.length - ((k x).left l).length) + 1 by simp; omega, List.drop_succ_cons]
    exact h
end Pr
end Go.Pr

/- A watcher, and what makes padding of what nobody writes, as trees. Plain Lean: no program. -/
namespace Go.Base
open Go Go.Pr
/-- a log's numbers -/
structure LogN where
  base : Int
  term : Int
  mtu : Int
  subs : Int
  ini : Int
  ses : Int
  str : Int
def LogN.ok (l : LogN) : Prop := LogOk l.base l.term l.mtu l.subs
instance (l : LogN) : Decidable l.ok := by unfold LogN.ok; infer_instance
/-- with its sign: of four bytes, of eight -/
def s32 (n : Int) : Int := (n + 2147483648) % 4294967296 - 2147483648
def s64 (n : Int) : Int := (n + 9223372036854775808) % 18446744073709551616 - 9223372036854775808
def u32 (n : Int) : Int := n % 4294967296
def load (at_ n : Int) : Acc := ⟨1, at_, n, 0, 0, []⟩
def store (at_ n v : Int) : Acc := ⟨2, at_, n, v, 0, []⟩
/-- what is told: a number, and the clock ahead of it -/
structure Tld where
  v : Int
  now : Int
def LogN.M (l : LogN) : Int := l.base + 3 * l.term
def LogN.partAt (l : LogN) (p : Int) : Int := l.base + l.term * p
def LogN.tailAt (l : LogN) (p : Int) : Int := l.M + 8 * p
/-- how many bytes were made padding, and how far it mends -/
abbrev UO := Int × Int
/-- where an unstick stands: the part's place, the offset, the claimed end, how far it mends, the term, the log -/
structure US where
  l : LogN
  part : Int
  off : Int
  fin : Int
  to : Int
  trm : Int
/-- the four words of the padding's header -/
def US.word (u : US) (n : Int) : Nat → Int
  | 0 => u32 n
  | 1 => u32 u.off + 4294967296 * u32 u.l.ses
  | 2 => u32 u.l.str + 4294967296 * u32 u.trm
  | _ => 0
def padT (u : US) (n : Int) : Pr Tld UO :=
  .ask (0, u.to) (store (u.part + u.off + 8) 8 (u.word n 1)) fun _ =>
  .ask (0, u.to) (store (u.part + u.off + 16) 8 (u.word n 2)) fun _ =>
  .ask (0, u.to) (store (u.part + u.off + 24) 8 (u.word n 3)) fun _ =>
  .ask (0, u.to) (store (u.part + u.off) 8 (u.word n 0)) fun _ => .done (n, u.to)
/-- is all ahead of what was found still 0? -/
def backT (u : US) (found : Int) : Nat → Int → Pr Tld UO
  | 0, _ => padT u (found - u.off)
  | k + 1, b => if b < u.off then padT u (found - u.off) else .ask (0, u.to) (load (u.part + b) 4) fun x => if x.v = 0 then backT u found k (b - 32) else .done (0, u.to)
/-- the next frame that was begun -/
def aheadT (u : US) : Nat → Int → Pr Tld UO
  | 0, _ => backT u u.fin 300 (u.fin - 32)
  | k + 1, a => if a ≥ u.fin then backT u u.fin 300 (u.fin - 32) else .ask (0, u.to) (load (u.part + a) 4) fun x => if x.v = 0 then aheadT u k (a + 32) else backT u a 300 (a - 32)
def lookT (u : US) : Pr Tld UO :=
  .ask (0, 0) (load (u.part + u.off) 8) fun x =>
    if s32 x.v > 0 ∨ s32 x.v < u.off - u.l.term then .done (0, 0)
    else if s32 x.v < 0 then padT u ((-(s32 x.v) + 31) / 32 * 32)
    else aheadT u 300 (u.off + 32)
def unstickT (l : LogN) (pos : Int) : Pr Tld UO :=
  if ¬ l.ok ∨ pos < 0 ∨ pos ≥ l.term * 2147483648 then .done (0, 0)
  else .ask (0, 0) (load (l.tailAt (pos / l.term % 3)) 8) fun x =>
    let fin := min (x.v % 4294967296) l.term
    let trm := s32 (l.ini + pos / l.term)
    if s32 (x.v / 4294967296) ≠ trm ∨ pos % l.term ≥ fin then .done (0, 0)
    else lookT ⟨l, l.partAt (pos / l.term % 3), pos % l.term, fin, pos / l.term * l.term + fin, trm⟩
/-- how many bytes were made padding so far; what is mended, from and to -/
abbrev WO := Int × Int × Int
/-- a watcher between two looks -/
structure WS where
  sum : Int
  last : Int
  since : Int
  noted : Bool
/-- the readers' positions, from one on: fin is told the least, and the clock at the last one -/
def subsT (M : Int) (o : WO) (fin : Int → Int → Pr Tld WO) : Nat → Nat → Int → Int → Pr Tld WO
  | _, 0, least, now => fin least now
  | i, r + 1, least, _ => .ask o (load (M + 48 + 8 * i) 8) fun x => subsT M o fin (i + 1) r (if i = 0 ∨ s64 x.v < least then s64 x.v else least) x.now
def watchT (l : LogN) (timeout : Int) : Nat → WS → Pr Tld WO
  | 0, s => .done (s.sum, 0, 0)
  | n + 1, s => subsT l.M (s.sum, 0, 0) (fun least now =>
      if s.noted = false ∨ least ≠ s.last then watchT l timeout n ⟨s.sum, least, now, true⟩
      else if now - s.since > timeout then (unstickT l least).bind (fun o => (s.sum + o.1, if o.2 > 0 then least else 0, o.2)) (fun o => watchT l timeout n ⟨s.sum + o.1, s.last, now, true⟩)
      else watchT l timeout n s) 0 l.subs.toNat 0 0
end Go.Base
