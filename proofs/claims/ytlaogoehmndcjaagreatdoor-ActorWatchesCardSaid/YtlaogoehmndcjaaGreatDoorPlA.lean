/- YtlaogoehmndcjaaGreatDoorBasePlain; YtlaogoehmndcjaaGreatDoorPrPlain; YtlaogoehmndcjaaGreatDoorWatchPlain; YtlaogoehmndcjaaGreatDoorWatPlain; YtlaogoehmndcjaaGreatDoorWatDoc; YtlaogoehmndcjaaGreatDoorWatDoc2; YtlaogoehmndcjaaGreatDoorWatDoc3; YtlaogoehmndcjaaGreatDoorInPlain: in one text. -/
import Derived.WalkKit
import Derived.Laws.DeepBits32
set_option linter.unusedVariables false
namespace Go.Base
open Go
def leN : List Nat → Nat
  | [] => 0
  | b :: l => b + 256 * leN l
theorem leN_lt : ∀ (l : List Nat), (∀ b ∈ l, b < 256) → leN l < 256 ^ l.length
  | [], _ => by simp [leN]
  | b :: l, h => by
    have h1 := leN_lt l (fun x hx => h x (List.mem_cons_of_mem _ hx))
    have h2 := h b (List.mem_cons_self ..)
    simp only [leN, List.length_cons, Nat.pow_succ]
    omega
theorem leN_snoc : ∀ (l : List Nat) (c : Nat), leN (l ++ [c]) = leN l + 256 ^ l.length * c
  | [], c => by simp [leN]
  | b :: l, c => by
    simp only [List.cons_append, leN, List.length_cons, Nat.pow_succ, leN_snoc l c, Nat.mul_add]
    rw [Nat.mul_comm (256 ^ l.length) 256, Nat.mul_assoc]
    omega
theorem or_step (l : List Nat) (h : ∀ b ∈ l, b < 256) (c : Nat) : leN l ||| c * 2 ^ (8 * l.length) = leN (l ++ [c]) := by
  have h1 : leN l < 2 ^ (8 * l.length) := by
    have := leN_lt l h
    rwa [show (256 : Nat) = 2 ^ 8 by decide, ← Nat.pow_mul] at this
  rw [leN_snoc, show (256 : Nat) = 2 ^ 8 by decide, ← Nat.pow_mul, Nat.or_comm]
  have := Nat.shiftLeft_add_eq_or_of_lt h1 c
  rw [Nat.shiftLeft_eq] at this
  rw [← this, Nat.mul_comm c]
  omega
theorem leN_drop (l : List Nat) (i : Nat) (c : Nat) (h : l[i]? = some c) : leN (l.drop i) = c + 256 * leN (l.drop (i + 1)) := by
  obtain ⟨hi, he⟩ := List.getElem?_eq_some_iff.1 h
  rw [List.drop_eq_getElem_cons hi, he, leN]
def TermOk (n : Int) : Prop := n = 256 ∨ n = 512 ∨ n = 1024 ∨ n = 2048 ∨ n = 4096 ∨ n = 8192
instance (n : Int) : Decidable (TermOk n) := by unfold TermOk; infer_instance
def LogOk (base term mtu subs : Int) : Prop := TermOk term ∧ 32 ≤ mtu ∧ mtu ≤ term / 8 ∧ mtu % 32 = 0 ∧ 1 ≤ subs ∧ subs ≤ 8 ∧ 0 ≤ base ∧ base % 8 = 0 ∧ base ≤ 131072 - 3 * term - 128
instance (a b c d : Int) : Decidable (LogOk a b c d) := by unfold LogOk; infer_instance
def powB (m : Nat) : Bool := !(Nat.ble 256 m && Nat.ble m 8192) || ((Nat.beq (m &&& (m - 1)) 0) == (Nat.beq m 256 || Nat.beq m 512 || Nat.beq m 1024 || Nat.beq m 2048 || Nat.beq m 4096 || Nat.beq m 8192))
theorem powB_all : ((List.range 33).all fun a => (List.range 256).all fun b => powB (256 * a + b)) = true := by decide +kernel
theorem pow_cases (n : Nat) (h0 : 256 ≤ n) (h1 : n ≤ 8192) : (n &&& (n - 1) = 0) ↔ TermOk (n : Int) := by
  have key : powB n = true := by
    have h2 := List.all_eq_true.1 powB_all (n / 256) (List.mem_range.2 (by omega))
    have h3 := List.all_eq_true.1 h2 (n % 256) (List.mem_range.2 (by omega))
    rwa [Nat.div_add_mod] at h3
  have e1 : Nat.ble 256 n = true := by rw [Nat.ble_eq]; exact h0
  have e2 : Nat.ble n 8192 = true := by rw [Nat.ble_eq]; exact h1
  simp only [powB, e1, e2, Bool.and_self, Bool.not_true, Bool.false_or, beq_iff_eq] at key
  unfold TermOk
  constructor
  · intro h
    have h2 : Nat.beq (n &&& (n - 1)) 0 = true := by rw [Nat.beq_eq]; exact h
    rw [h2] at key
    have h3 := key.symm
    simp only [Bool.or_eq_true, Nat.beq_eq] at h3
    omega
  · intro h
    have h3 : (Nat.beq n 256 || Nat.beq n 512 || Nat.beq n 1024 || Nat.beq n 2048 || Nat.beq n 4096 || Nat.beq n 8192) = true := by
      simp only [Bool.or_eq_true, Nat.beq_eq]
      omega
    rw [h3] at key
    rw [Nat.beq_eq] at key
    exact key
end Go.Base
namespace Go.Pr
structure Acc where
  k : Int
  at_ : Int
  n : Int
  v : Int
  w : Int
  b : List Nat
inductive Pr (A O : Type) where
  | done (o : O)
  | ask (o : O) (a : Acc) (k : A → Pr A O)
variable {A O O' : Type}
namespace Pr
def obs : Pr A O → O
  | .done o => o
  | .ask o _ _ => o
def want : Pr A O → Option Acc
  | .done _ => none
  | .ask _ a _ => some a
def run : Pr A O → List A → Pr A O
  | p, [] => p
  | .done o, _ :: _ => .done o
  | .ask _ _ k, x :: l => (k x).run l
def left : Pr A O → List A → List A
  | .done _, l => l
  | .ask _ _ _, [] => []
  | .ask _ _ k, x :: l => (k x).left l
theorem run_nil (p : Pr A O) : p.run [] = p := by cases p <;> rfl
theorem run_done (o : O) : ∀ l : List A, (Pr.done o).run l = .done o
  | [] => rfl
  | _ :: _ => rfl
theorem run_append : ∀ (p : Pr A O) (l m : List A), p.run (l ++ m) = (p.run l).run m
  | p, [], m => by rw [List.nil_append, run_nil]
  | .done o, x :: l, m => by rw [run_done, run_done, run_done]
  | .ask _ _ k, x :: l, m => by
    show (k x).run (l ++ m) = ((k x).run l).run m
    exact run_append (k x) l m
def bind (p : Pr A O) (f : O → O') (g : O → Pr A O') : Pr A O' :=
  match p with
  | .done o => g o
  | .ask o a k => .ask (f o) a (fun x => (k x).bind f g)
theorem bind_run (f : O → O') (g : O → Pr A O') : ∀ (l : List A) (p : Pr A O), (∃ o, p.run l = .done o ∧ (p.bind f g).run l = (g o).run (p.left l)) ∨ (∃ o a k, p.run l = .ask o a k ∧ (p.bind f g).run l = .ask (f o) a (fun x => (k x).bind f g) ∧ p.left l = [])
  | [], .done o => .inl ⟨o, rfl, by simp [bind, left]⟩
  | [], .ask o a k => .inr ⟨o, a, k, rfl, rfl, rfl⟩
  | x :: l, .done o => .inl ⟨o, rfl, by simp [bind, left]⟩
  | x :: l, .ask o a k => by
    have := bind_run f g l (k x)
    exact this
theorem left_le : ∀ (l : List A) (p : Pr A O), (p.left l).length ≤ l.length
  | [], .done _ => Nat.le_refl _
  | [], .ask .. => Nat.le_refl _
  | _ :: _, .done _ => Nat.le_refl _
  | x :: l, .ask _ _ k => by
    have := left_le l (k x)
    show ((k x).left l).length ≤ _
    simp; omega
theorem left_drop : ∀ (l : List A) (p : Pr A O), p.left l = l.drop (l.length - (p.left l).length)
  | [], .done _ => rfl
  | [], .ask .. => rfl
  | x :: l, .done _ => by simp [left]
  | x :: l, .ask _ _ k => by
    have h := left_drop l (k x)
    have h2 := left_le l (k x)
    show (k x).left l = (x :: l).drop ((x :: l).length - ((k x).left l).length)
    rw [show (x :: l).length - ((k x).left l).length = (l.length - ((k x).left l).length) + 1 by simp; omega, List.drop_succ_cons]
    exact h
end Pr
end Go.Pr
namespace Go.Base
open Go Go.Pr
structure LogN where
  base : Int
  term : Int
  mtu : Int
  subs : Int
  ini : Int
  ses : Int
  str : Int
def LogN.ok (l : LogN) : Prop := LogOk l.base l.term l.mtu l.subs
instance (l : LogN) : Decidable l.ok := by unfold LogN.ok; infer_instance
def s32 (n : Int) : Int := (n + 2147483648) % 4294967296 - 2147483648
def s64 (n : Int) : Int := (n + 9223372036854775808) % 18446744073709551616 - 9223372036854775808
def u32 (n : Int) : Int := n % 4294967296
def load (at_ n : Int) : Acc := ⟨1, at_, n, 0, 0, []⟩
def store (at_ n v : Int) : Acc := ⟨2, at_, n, v, 0, []⟩
structure Tld where
  v : Int
  now : Int
def LogN.M (l : LogN) : Int := l.base + 3 * l.term
def LogN.partAt (l : LogN) (p : Int) : Int := l.base + l.term * p
def LogN.tailAt (l : LogN) (p : Int) : Int := l.M + 8 * p
abbrev UO := Int × Int
structure US where
  l : LogN
  part : Int
  off : Int
  fin : Int
  to : Int
  trm : Int
def US.word (u : US) (n : Int) : Nat → Int
  | 0 => u32 n
  | 1 => u32 u.off + 4294967296 * u32 u.l.ses
  | 2 => u32 u.l.str + 4294967296 * u32 u.trm
  | _ => 0
def padT (u : US) (n : Int) : Pr Tld UO :=
  .ask (0, u.to) (store (u.part + u.off + 8) 8 (u.word n 1)) fun _ =>
  .ask (0, u.to) (store (u.part + u.off + 16) 8 (u.word n 2)) fun _ =>
  .ask (0, u.to) (store (u.part + u.off + 24) 8 (u.word n 3)) fun _ =>
  .ask (0, u.to) (store (u.part + u.off) 8 (u.word n 0)) fun _ => .done (n, u.to)
def backT (u : US) (found : Int) : Nat → Int → Pr Tld UO
  | 0, _ => padT u (found - u.off)
  | k + 1, b => if b < u.off then padT u (found - u.off) else .ask (0, u.to) (load (u.part + b) 4) fun x => if x.v = 0 then backT u found k (b - 32) else .done (0, u.to)
def aheadT (u : US) : Nat → Int → Pr Tld UO
  | 0, _ => backT u u.fin 300 (u.fin - 32)
  | k + 1, a => if a ≥ u.fin then backT u u.fin 300 (u.fin - 32) else .ask (0, u.to) (load (u.part + a) 4) fun x => if x.v = 0 then aheadT u k (a + 32) else backT u a 300 (a - 32)
def lookT (u : US) : Pr Tld UO :=
  .ask (0, 0) (load (u.part + u.off) 8) fun x =>
    if s32 x.v > 0 ∨ s32 x.v < u.off - u.l.term then .done (0, 0)
    else if s32 x.v < 0 then padT u ((-(s32 x.v) + 31) / 32 * 32)
    else aheadT u 300 (u.off + 32)
def unstickT (l : LogN) (pos : Int) : Pr Tld UO :=
  if ¬ l.ok ∨ pos < 0 ∨ pos ≥ l.term * 2147483648 then .done (0, 0)
  else .ask (0, 0) (load (l.tailAt (pos / l.term % 3)) 8) fun x =>
    let fin := min (x.v % 4294967296) l.term
    let trm := s32 (l.ini + pos / l.term)
    if s32 (x.v / 4294967296) ≠ trm ∨ pos % l.term ≥ fin then .done (0, 0)
    else lookT ⟨l, l.partAt (pos / l.term % 3), pos % l.term, fin, pos / l.term * l.term + fin, trm⟩
abbrev WO := Int × Int × Int
structure WS where
  sum : Int
  last : Int
  since : Int
  noted : Bool
def subsT (M : Int) (o : WO) (fin : Int → Int → Pr Tld WO) : Nat → Nat → Int → Int → Pr Tld WO
  | _, 0, least, now => fin least now
  | i, r + 1, least, _ => .ask o (load (M + 48 + 8 * i) 8) fun x => subsT M o fin (i + 1) r (if i = 0 ∨ s64 x.v < least then s64 x.v else least) x.now
def watchT (l : LogN) (timeout : Int) : Nat → WS → Pr Tld WO
  | 0, s => .done (s.sum, 0, 0)
  | n + 1, s => subsT l.M (s.sum, 0, 0) (fun least now =>
      if s.noted = false ∨ least ≠ s.last then watchT l timeout n ⟨s.sum, least, now, true⟩
      else if now - s.since > timeout then (unstickT l least).bind (fun o => (s.sum + o.1, if o.2 > 0 then least else 0, o.2)) (fun o => watchT l timeout n ⟨s.sum + o.1, s.last, now, true⟩)
      else watchT l timeout n s) 0 l.subs.toNat 0 0
end Go.Base
namespace Go.Base
open Go Go.Pr
def finW (l : LogN) (timeout : Int) (n : Nat) (s : WS) : Int → Int → Pr Tld WO := fun least now =>
  if s.noted = false ∨ least ≠ s.last then watchT l timeout n ⟨s.sum, least, now, true⟩
  else if now - s.since > timeout then (unstickT l least).bind (fun o => (s.sum + o.1, if o.2 > 0 then least else 0, o.2)) (fun o => watchT l timeout n ⟨s.sum + o.1, s.last, now, true⟩)
  else watchT l timeout n s
def subW (l : LogN) (timeout : Int) (n : Nat) (s : WS) (i : Nat) (least : Int) : Pr Tld WO := subsT l.M (s.sum, 0, 0) (finW l timeout n s) i (l.subs.toNat - i) least 0
theorem subsT_now (M : Int) (o : WO) (fin : Int → Int → Pr Tld WO) (i r : Nat) (least a b : Int) : subsT M o fin i (r + 1) least a = subsT M o fin i (r + 1) least b := rfl
def subK (l : LogN) (timeout : Int) (n : Nat) (s : WS) (i : Nat) (least : Int) (x : Tld) : Pr Tld WO :=
  if i + 1 = l.subs.toNat then finW l timeout n s (if i = 0 ∨ s64 x.v < least then s64 x.v else least) x.now
  else subW l timeout n s (i + 1) (if i = 0 ∨ s64 x.v < least then s64 x.v else least)
theorem subW_ask (l : LogN) (timeout : Int) (n : Nat) (s : WS) (i : Nat) (least : Int) (h : i < l.subs.toNat) : subW l timeout n s i least = .ask (s.sum, 0, 0) (load (l.M + 48 + 8 * i) 8) (subK l timeout n s i least) := by
  unfold subW
  obtain ⟨r, hr⟩ : ∃ r, l.subs.toNat - i = r + 1 := ⟨l.subs.toNat - i - 1, by omega⟩
  rw [hr, subsT]
  congr 1
  funext x
  unfold subK
  by_cases h1 : i + 1 = l.subs.toNat
  · obtain rfl : r = 0 := by omega
    rw [if_pos h1, subsT]
  · rw [if_neg h1]
    unfold subW
    obtain ⟨q, rfl⟩ : ∃ q, r = q + 1 := ⟨r - 1, by omega⟩
    rw [show l.subs.toNat - (i + 1) = q + 1 by omega]
    first | rfl | exact subsT_now ..
theorem look_0 (l : LogN) (timeout : Int) (s : WS) : watchT l timeout 0 s = .done (s.sum, 0, 0) := rfl
theorem look_succ (l : LogN) (timeout : Int) (n : Nat) (s : WS) (least : Int) (h : 0 < l.subs.toNat) : watchT l timeout (n + 1) s = subW l timeout n s 0 least := by
  rw [subW_ask l timeout n s 0 least h]
  show subW l timeout n s 0 0 = _
  rw [subW_ask l timeout n s 0 0 h]
  congr 1
def inU (l : LogN) (timeout : Int) (n : Nat) (s : WS) (pos : Int) (p : Pr Tld UO) : Pr Tld WO :=
  p.bind (fun o => (s.sum + o.1, if o.2 > 0 then pos else 0, o.2)) (fun o => watchT l timeout n ⟨s.sum + o.1, s.last, s.since, true⟩)
theorem inU_done (l : LogN) (timeout : Int) (n : Nat) (s : WS) (pos : Int) (o : UO) : inU l timeout n s pos (.done o) = watchT l timeout n ⟨s.sum + o.1, s.last, s.since, true⟩ := rfl
theorem inU_ask (l : LogN) (timeout : Int) (n : Nat) (s : WS) (pos : Int) (o : UO) (a : Acc) (k : Tld → Pr Tld UO) : inU l timeout n s pos (.ask o a k) = .ask (s.sum + o.1, if o.2 > 0 then pos else 0, o.2) a (fun x => inU l timeout n s pos (k x)) := rfl
theorem finW_first (l : LogN) (timeout : Int) (n : Nat) (s : WS) (least now : Int) (h : s.noted = false ∨ least ≠ s.last) : finW l timeout n s least now = watchT l timeout n ⟨s.sum, least, now, true⟩ := if_pos h
theorem finW_wait (l : LogN) (timeout : Int) (n : Nat) (s : WS) (least now : Int) (h : s.noted = true) (h1 : least = s.last) (h2 : ¬ now - s.since > timeout) : finW l timeout n s least now = watchT l timeout n s := by
  unfold finW
  rw [if_neg (by rw [h]; simp [h1]), if_neg h2]
theorem finW_mend (l : LogN) (timeout : Int) (n : Nat) (s : WS) (least now : Int) (h : s.noted = true) (h1 : least = s.last) (h2 : now - s.since > timeout) : finW l timeout n s least now = inU l timeout n ⟨s.sum, s.last, now, true⟩ least (unstickT l least) := by
  unfold finW
  rw [if_neg (by rw [h]; simp [h1]), if_pos h2]
  rfl
end Go.Base
namespace Go.Base
open Go Go.Pr
theorem s32_mod (V : Int) : s32 (V % 4294967296) = s32 V := by unfold s32; omega
theorem sub_more {l : LogN} {timeout : Int} {n : Nat} {s : WS} {i : Nat} {least m : Int} {x : Tld} (h : i < l.subs.toNat) (h1 : ¬ i + 1 = l.subs.toNat) (hm : (if i = 0 ∨ s64 x.v < least then s64 x.v else least) = m) : (subW l timeout n s i least).run [x] = subW l timeout n s (i + 1) m := by
  rw [subW_ask l timeout n s i least h]
  show (subK l timeout n s i least x).run [] = _
  rw [Pr.run_nil, subK, if_neg h1, hm]
theorem sub_last {l : LogN} {timeout : Int} {n : Nat} {s : WS} {i : Nat} {least m : Int} {x : Tld} (h : i < l.subs.toNat) (h1 : i + 1 = l.subs.toNat) (hm : (if i = 0 ∨ s64 x.v < least then s64 x.v else least) = m) : (subW l timeout n s i least).run [x] = finW l timeout n s m x.now := by
  rw [subW_ask l timeout n s i least h]
  show (subK l timeout n s i least x).run [] = _
  rw [Pr.run_nil, subK, if_pos h1, hm]
theorem look_fin {l : LogN} {timeout times : Int} {s : WS} (h : times < 1) : watchT l timeout times.toNat s = .done (s.sum, 0, 0) := by
  rw [show times.toNat = 0 by omega]; rfl
theorem look_on {l : LogN} {timeout times : Int} {s : WS} (h : ¬ times < 1) (hs : 0 < l.subs.toNat) (least : Int) : watchT l timeout times.toNat s = subW l timeout (times - 1).toNat s 0 least := by
  rw [show times.toNat = (times - 1).toNat + 1 by omega]
  exact look_succ l timeout _ s least hs
def tailK (l : LogN) (pos : Int) (x : Tld) : Pr Tld UO :=
  if s32 (x.v / 4294967296) ≠ s32 (l.ini + pos / l.term) ∨ pos % l.term ≥ min (x.v % 4294967296) l.term then .done (0, 0)
  else lookT ⟨l, l.partAt (pos / l.term % 3), pos % l.term, min (x.v % 4294967296) l.term, pos / l.term * l.term + min (x.v % 4294967296) l.term, s32 (l.ini + pos / l.term)⟩
theorem unstickT_ask {l : LogN} {pos : Int} (h : l.ok) (h0 : 0 ≤ pos ∧ pos < l.term * 2147483648) : unstickT l pos = .ask (0, 0) (load (l.tailAt (pos / l.term % 3)) 8) (tailK l pos) := by
  unfold unstickT
  rw [if_neg (by rintro (h1 | h1 | h1) <;> first | exact h1 h | omega)]
  rfl
theorem unstickT_not {l : LogN} {pos : Int} (h0 : ¬ (0 ≤ pos ∧ pos < l.term * 2147483648)) : unstickT l pos = .done (0, 0) := by
  unfold unstickT
  rw [if_pos (by omega)]
def lookK (u : US) (x : Tld) : Pr Tld UO :=
  if s32 x.v > 0 ∨ s32 x.v < u.off - u.l.term then .done (0, 0)
  else if s32 x.v < 0 then padT u ((-(s32 x.v) + 31) / 32 * 32)
  else aheadT u 300 (u.off + 32)
theorem lookT_ask (u : US) : lookT u = .ask (0, 0) (load (u.part + u.off) 8) (lookK u) := rfl
theorem aheadT_ask {u : US} {k : Nat} {a : Int} (h : ¬ a ≥ u.fin) : aheadT u (k + 1) a = .ask (0, u.to) (load (u.part + a) 4) (fun x => if x.v = 0 then aheadT u k (a + 32) else backT u a 300 (a - 32)) := by
  rw [aheadT, if_neg h]
theorem aheadT_end {u : US} {k : Nat} {a : Int} (h : a ≥ u.fin) : aheadT u k a = backT u u.fin 300 (u.fin - 32) := by
  cases k with
  | zero => rfl
  | succ k => rw [aheadT, if_pos h]
theorem backT_ask {u : US} {k : Nat} {f b : Int} (h : ¬ b < u.off) : backT u f (k + 1) b = .ask (0, u.to) (load (u.part + b) 4) (fun x => if x.v = 0 then backT u f k (b - 32) else .done (0, u.to)) := by
  rw [backT, if_neg h]
theorem backT_end {u : US} {k : Nat} {f b : Int} (h : b < u.off) : backT u f k b = padT u (f - u.off) := by
  cases k with
  | zero => rfl
  | succ k => rw [backT, if_pos h]
def padT4 (u : US) (n : Int) : Pr Tld UO := .ask (0, u.to) (store (u.part + u.off) 8 (u.word n 0)) fun _ => .done (n, u.to)
def padT3 (u : US) (n : Int) : Pr Tld UO := .ask (0, u.to) (store (u.part + u.off + 24) 8 (u.word n 3)) fun _ => padT4 u n
def padT2 (u : US) (n : Int) : Pr Tld UO := .ask (0, u.to) (store (u.part + u.off + 16) 8 (u.word n 2)) fun _ => padT3 u n
theorem padT_ask (u : US) (n : Int) : padT u n = .ask (0, u.to) (store (u.part + u.off + 8) 8 (u.word n 1)) fun _ => padT2 u n := rfl
theorem inU_run {l : LogN} {timeout : Int} {n : Nat} {s : WS} {pos : Int} {p : Pr Tld UO} {o : UO} {a : Acc} {k : Tld → Pr Tld UO} (x : Tld) (h : p = .ask o a k) : (inU l timeout n s pos p).run [x] = inU l timeout n s pos (k x) := by
  subst h
  exact Pr.run_nil _
theorem inU_end {l : LogN} {timeout : Int} {n : Nat} {s : WS} {pos : Int} {p : Pr Tld UO} {o : UO} (h : p = .done o) : inU l timeout n s pos p = watchT l timeout n ⟨s.sum + o.1, s.last, s.since, true⟩ := by
  subst h
  rfl
end Go.Base
namespace Go.Base
open Go Go.Pr
def backF (u : US) (found : Int) : Nat → Int → Pr Tld Int
  | 0, _ => .done (found - u.off)
  | k + 1, b => if b < u.off then .done (found - u.off) else .ask 0 (load (u.part + b) 4) fun x => if x.v = 0 then backF u found k (b - 32) else .done 0
def aheadF (u : US) : Nat → Int → Pr Tld Int
  | 0, _ => backF u u.fin 300 (u.fin - 32)
  | k + 1, a => if a ≥ u.fin then backF u u.fin 300 (u.fin - 32) else .ask 0 (load (u.part + a) 4) fun x => if x.v = 0 then aheadF u k (a + 32) else backF u a 300 (a - 32)
def afterF (u : US) (n : Int) : Pr Tld UO := if n = 0 then .done (0, u.to) else padT u n
theorem backT_bind (u : US) (found : Int) (h : u.off < found) : ∀ (k : Nat) (b : Int), backT u found k b = (backF u found k b).bind (fun _ => (0, u.to)) (afterF u)
  | 0, b => by
    rw [backT, backF]
    show _ = afterF u (found - u.off)
    rw [afterF, if_neg (by omega)]
  | k + 1, b => by
    rw [backT, backF]
    by_cases hb : b < u.off
    · rw [if_pos hb, if_pos hb]
      show _ = afterF u (found - u.off)
      rw [afterF, if_neg (by omega)]
    · rw [if_neg hb, if_neg hb]
      show Pr.ask _ _ _ = Pr.ask _ _ _
      congr 1
      funext x
      by_cases hx : x.v = 0
      · rw [if_pos hx]; simp only [if_pos hx]; exact backT_bind u found h k (b - 32)
      · rw [if_neg hx]; simp only [if_neg hx]
        show _ = afterF u 0
        rw [afterF, if_pos rfl]
theorem aheadT_bind (u : US) (hf : u.off < u.fin) : ∀ (k : Nat) (a : Int), u.off < a → aheadT u k a = (aheadF u k a).bind (fun _ => (0, u.to)) (afterF u)
  | 0, a, h => by rw [aheadT, aheadF]; exact backT_bind u _ hf _ _
  | k + 1, a, h => by
    rw [aheadT, aheadF]
    by_cases ha : a ≥ u.fin
    · rw [if_pos ha, if_pos ha]; exact backT_bind u _ hf _ _
    · rw [if_neg ha, if_neg ha]
      show Pr.ask _ _ _ = Pr.ask _ _ _
      congr 1
      funext x
      by_cases hx : x.v = 0
      · rw [if_pos hx]; simp only [if_pos hx]; exact aheadT_bind u hf k (a + 32) (by omega)
      · rw [if_neg hx]; simp only [if_neg hx]; exact backT_bind u a h _ _
theorem backF_end {u : US} {k : Nat} {f b : Int} (h : b < u.off) : backF u f k b = .done (f - u.off) := by
  cases k with
  | zero => rfl
  | succ k => rw [backF, if_pos h]
theorem aheadF_end {u : US} {k : Nat} {a : Int} (h : a ≥ u.fin) : aheadF u k a = backF u u.fin 300 (u.fin - 32) := by
  cases k with
  | zero => rfl
  | succ k => rw [aheadF, if_pos h]
def at2 {A O : Type} (p : Pr A O) (l : List A) (q : Pr A O) (m : List A) : Prop := p.run l = q.run m ∧ p.left l = q.left m
theorem at2_refl {A O : Type} (p : Pr A O) (l : List A) : at2 p l p l := ⟨rfl, rfl⟩
theorem at2_ask {A O : Type} {p : Pr A O} {l : List A} {o : O} {a : Acc} {k : A → Pr A O} {x : A} {m : List A} (h : at2 p l (.ask o a k) (x :: m)) : at2 p l (k x) m := h
theorem aheadF_more {u : US} {k : Nat} {a : Int} (h : ¬ a ≥ u.fin) {p : Pr Tld Int} {l m : List Tld} {x : Tld} (hx : x.v = 0) (h2 : at2 p l (aheadF u (k + 1) a) (x :: m)) : at2 p l (aheadF u k (a + 32)) m := by
  rw [aheadF, if_neg h] at h2
  have := at2_ask h2
  rwa [if_pos hx] at this
theorem aheadF_found {u : US} {k : Nat} {a : Int} (h : ¬ a ≥ u.fin) {p : Pr Tld Int} {l m : List Tld} {x : Tld} (hx : ¬ x.v = 0) (h2 : at2 p l (aheadF u (k + 1) a) (x :: m)) : at2 p l (backF u a 300 (a - 32)) m := by
  rw [aheadF, if_neg h] at h2
  have := at2_ask h2
  rwa [if_neg hx] at this
theorem aheadF_wait {u : US} {k : Nat} {a : Int} (h : ¬ a ≥ u.fin) {p : Pr Tld Int} {l : List Tld} (h2 : at2 p l (aheadF u (k + 1) a) []) : (∃ K, p.run l = .ask 0 (load (u.part + a) 4) K) ∧ p.left l = [] := by
  rw [aheadF, if_neg h] at h2
  exact ⟨⟨_, h2.1⟩, h2.2⟩
theorem backF_more {u : US} {k : Nat} {f b : Int} (h : ¬ b < u.off) {p : Pr Tld Int} {l m : List Tld} {x : Tld} (hx : x.v = 0) (h2 : at2 p l (backF u f (k + 1) b) (x :: m)) : at2 p l (backF u f k (b - 32)) m := by
  rw [backF, if_neg h] at h2
  have := at2_ask h2
  rwa [if_pos hx] at this
theorem backF_found {u : US} {k : Nat} {f b : Int} (h : ¬ b < u.off) {p : Pr Tld Int} {l m : List Tld} {x : Tld} (hx : ¬ x.v = 0) (h2 : at2 p l (backF u f (k + 1) b) (x :: m)) : p.run l = .done 0 ∧ p.left l = m := by
  rw [backF, if_neg h] at h2
  have := at2_ask h2
  rw [if_neg hx] at this
  exact ⟨by rw [this.1, Pr.run_done], by rw [this.2]; cases m <;> rfl⟩
theorem backF_wait {u : US} {k : Nat} {f b : Int} (h : ¬ b < u.off) {p : Pr Tld Int} {l : List Tld} (h2 : at2 p l (backF u f (k + 1) b) []) : (∃ K, p.run l = .ask 0 (load (u.part + b) 4) K) ∧ p.left l = [] := by
  rw [backF, if_neg h] at h2
  exact ⟨⟨_, h2.1⟩, h2.2⟩
theorem backF_done {u : US} {k : Nat} {f b : Int} (h : b < u.off) {p : Pr Tld Int} {l m : List Tld} (h2 : at2 p l (backF u f k b) m) : p.run l = .done (f - u.off) ∧ p.left l = m := by
  rw [backF_end h] at h2
  exact ⟨by rw [h2.1, Pr.run_done], by rw [h2.2]; cases m <;> rfl⟩
end Go.Base
namespace Go.Base
open Go Go.Pr
section
variable {A O O' : Type} {f : O → O'} {g : O → Pr A O'}
theorem ask_left : ∀ {l : List A} {p : Pr A O} {o : O} {a : Acc} {k : A → Pr A O}, p.run l = .ask o a k → p.left l = []
  | [], .done o, _, _, _, h => by cases h
  | [], .ask .., _, _, _, _ => rfl
  | x :: l, .done o, _, _, _, h => by cases h
  | x :: l, .ask o a k, _, _, _, h => ask_left (p := k x) (l := l) h
theorem bind_done : ∀ {l : List A} {p : Pr A O} {o : O}, p.run l = .done o → (p.bind f g).run l = (g o).run (p.left l) ∧ (p.bind f g).left l = (g o).left (p.left l)
  | [], .done o, o', h => by injection h with h; subst h; exact ⟨rfl, rfl⟩
  | [], .ask .., _, h => by cases h
  | x :: l, .done o, o', h => by injection h with h; subst h; exact ⟨rfl, rfl⟩
  | x :: l, .ask o a k, o', h => bind_done (p := k x) (l := l) h
theorem bind_ask : ∀ {l : List A} {p : Pr A O} {o : O} {a : Acc} {k : A → Pr A O}, p.run l = .ask o a k → (∃ k', (p.bind f g).run l = .ask (f o) a k') ∧ (p.bind f g).left l = []
  | [], .done o, _, _, _, h => by cases h
  | [], .ask o a k, _, _, _, h => by injection h with h1 h2 h3; subst h1 h2; exact ⟨⟨_, rfl⟩, rfl⟩
  | x :: l, .done o, _, _, _, h => by cases h
  | x :: l, .ask o a k, _, _, _, h => bind_ask (p := k x) (l := l) h
end
theorem left_at {A O : Type} {p : Pr A O} {L l : List A} {a : Nat} (h : L.drop a = l) : L.drop (L.length - (p.left l).length) = p.left l := by
  have h1 := Pr.left_drop l p
  have h2 := Pr.left_le l p
  have h3 : l.length = L.length - a := by rw [← h, List.length_drop]
  rw [← h, List.drop_drop] at h1
  rw [← h] at h2 ⊢
  rw [h] at h1 h2 ⊢
  by_cases ha : a ≤ L.length
  · rw [h1]
    congr 1
    rw [← h1]
    omega
  · have : l = [] := by apply List.eq_nil_of_length_eq_zero; omega
    subst this
    have : (p.left []).length = 0 := by simpa using h2
    rw [this]
    rw [List.eq_nil_of_length_eq_zero this]
    simp
theorem backF_bd (u : US) (f : Int) (hf : u.off < f) : ∀ (k : Nat) (b : Int) (l : List Tld) (n : Int), (backF u f k b).run l = .done n → 0 ≤ n ∧ n ≤ f - u.off
  | 0, b, l, n, h => by rw [backF, Pr.run_done] at h; injection h with h; omega
  | k + 1, b, l, n, h => by
    rw [backF] at h
    by_cases hb : b < u.off
    · rw [if_pos hb, Pr.run_done] at h; injection h with h; omega
    · rw [if_neg hb] at h
      rcases l with _ | ⟨x, l⟩
      · cases h
      · change Pr.run (if x.v = 0 then _ else _) l = _ at h
        by_cases hx : x.v = 0
        · rw [if_pos hx] at h; exact backF_bd u f hf k _ l n h
        · rw [if_neg hx, Pr.run_done] at h; injection h with h; omega
theorem aheadF_bd (u : US) (hf : u.off < u.fin) : ∀ (k : Nat) (a : Int) (l : List Tld) (n : Int), u.off < a → (aheadF u k a).run l = .done n → 0 ≤ n ∧ n ≤ u.fin - u.off
  | 0, a, l, n, ha, h => by rw [aheadF] at h; exact backF_bd u _ hf _ _ l n h
  | k + 1, a, l, n, ha, h => by
    rw [aheadF] at h
    by_cases hb : a ≥ u.fin
    · rw [if_pos hb] at h; exact backF_bd u _ hf _ _ l n h
    · rw [if_neg hb] at h
      rcases l with _ | ⟨x, l⟩
      · cases h
      · change Pr.run (if x.v = 0 then _ else _) l = _ at h
        by_cases hx : x.v = 0
        · rw [if_pos hx] at h; exact aheadF_bd u hf k _ l n (by omega) h
        · rw [if_neg hx] at h
          have := backF_bd u a ha _ _ l n h
          omega
def padJ (u : US) (n : Int) : Nat → Pr Tld UO
  | 0 => padT u n
  | 1 => padT2 u n
  | 2 => padT3 u n
  | 3 => padT4 u n
  | _ => .done (n, u.to)
end Go.Base
namespace Go.Base
open Go Go.Pr
def allO {A O : Type} (P : O → Prop) : Pr A O → Prop
  | .done o => P o
  | .ask o _ k => P o ∧ ∀ x, allO P (k x)
theorem allO_run {A O : Type} {P : O → Prop} : ∀ (l : List A) (p : Pr A O), allO P p → P (p.run l).obs
  | [], .done _, h => h
  | [], .ask .., h => h.1
  | _ :: _, .done _, h => h
  | x :: l, .ask _ _ k, h => allO_run l (k x) (h.2 x)
def small (o : UO) : Prop := 0 ≤ o.1 ∧ o.1 ≤ 10000
theorem small0 (to : Int) : small (0, to) := ⟨by show (0 : Int) ≤ 0; omega, by show (0 : Int) ≤ 10000; omega⟩
theorem padT_all (u : US) (n : Int) (h : 0 ≤ n ∧ n ≤ 10000) : allO small (padT u n) := by
  unfold padT
  exact ⟨small0 _, fun _ => ⟨small0 _, fun _ => ⟨small0 _, fun _ => ⟨small0 _, fun _ => h⟩⟩⟩⟩
theorem backT_all (u : US) (f : Int) (h : 0 ≤ f - u.off ∧ f - u.off ≤ 10000) : ∀ (k : Nat) (b : Int), allO small (backT u f k b)
  | 0, b => by rw [backT]; exact padT_all u _ h
  | k + 1, b => by
    rw [backT]
    split
    · exact padT_all u _ h
    · refine ⟨small0 _, fun x => ?_⟩
      dsimp only
      split
      · exact backT_all u f h k _
      · exact small0 _
theorem aheadT_all (u : US) (h : 0 ≤ u.off ∧ u.off ≤ u.fin ∧ u.fin ≤ 10000) : ∀ (k : Nat) (a : Int), u.off ≤ a → allO small (aheadT u k a)
  | 0, a, _ => by rw [aheadT]; exact backT_all u _ (by omega) _ _
  | k + 1, a, ha => by
    rw [aheadT]
    split
    · exact backT_all u _ (by omega) _ _
    · refine ⟨small0 _, fun x => ?_⟩
      dsimp only
      split
      · exact aheadT_all u h k _ (by omega)
      · exact backT_all u _ (by omega) _ _
theorem unstickT_all (l : LogN) (hl : 256 ≤ l.term ∧ l.term ≤ 8192) (pos : Int) : allO small (unstickT l pos) := by
  unfold unstickT
  split
  · exact small0 _
  · refine ⟨small0 _, fun x => ?_⟩
    dsimp only
    split
    · exact small0 _
    · rename_i h1
      have ho : 0 ≤ pos % l.term := Int.emod_nonneg _ (by omega)
      have hf : ¬ pos % l.term ≥ min (x.v % 4294967296) l.term := fun h => h1 (.inr h)
      refine ⟨small0 _, fun y => ?_⟩
      dsimp only
      split
      · exact small0 _
      · rename_i h2
        have h3 : ¬ s32 y.v > 0 := fun h => h2 (.inl h)
        have h4 : ¬ s32 y.v < pos % l.term - l.term := fun h => h2 (.inr h)
        split
        · exact padT_all _ _ (by omega)
        · exact aheadT_all _ ⟨ho, by show pos % l.term ≤ min _ _; omega, by show min (x.v % 4294967296) l.term ≤ 10000; omega⟩ _ _ (by show pos % l.term ≤ pos % l.term + 32; omega)
theorem subsT_step {M : Int} {o : WO} {fin : Int → Int → Pr Tld WO} {k r : Nat} {least now : Int} {p : Pr Tld WO} {l m : List Tld} {x : Tld} (h : at2 p l (subsT M o fin k (r + 1) least now) (x :: m)) : at2 p l (subsT M o fin (k + 1) r (if k = 0 ∨ s64 x.v < least then s64 x.v else least) x.now) m := at2_ask h
theorem subsT_nil {M : Int} {o : WO} {fin : Int → Int → Pr Tld WO} {k r : Nat} {least now : Int} {p : Pr Tld WO} {l : List Tld} (h : at2 p l (subsT M o fin k (r + 1) least now) []) : (∃ K, p.run l = .ask o (load (M + 48 + 8 * k) 8) K) ∧ p.left l = [] := ⟨⟨_, h.1⟩, h.2⟩
theorem watchT_on {l : LogN} {timeout : Int} {n : Nat} {s : WS} {p : Pr Tld WO} {q m : List Tld} (h : at2 p q (watchT l timeout (n + 1) s) m) : at2 p q (subsT l.M (s.sum, 0, 0) (finW l timeout n s) 0 l.subs.toNat 0 0) m := h
end Go.Base
namespace Go.Base
open Go Go.Pr
def upU (o : UO) : Prop := 0 ≤ o.2
def upW (o : WO) : Prop := 0 ≤ o.2.2
theorem padT_up (u : US) (n : Int) (h : 0 ≤ u.to) : allO upU (padT u n) := ⟨h, fun _ => ⟨h, fun _ => ⟨h, fun _ => ⟨h, fun _ => h⟩⟩⟩⟩
theorem backT_up (u : US) (f : Int) (h : 0 ≤ u.to) : ∀ (k : Nat) (b : Int), allO upU (backT u f k b)
  | 0, b => by rw [backT]; exact padT_up u _ h
  | k + 1, b => by
    rw [backT]
    split
    · exact padT_up u _ h
    · refine ⟨h, fun x => ?_⟩
      dsimp only
      split
      · exact backT_up u f h k _
      · exact h
theorem aheadT_up (u : US) (h : 0 ≤ u.to) : ∀ (k : Nat) (a : Int), allO upU (aheadT u k a)
  | 0, a => by rw [aheadT]; exact backT_up u _ h _ _
  | k + 1, a => by
    rw [aheadT]
    split
    · exact backT_up u _ h _ _
    · refine ⟨h, fun x => ?_⟩
      dsimp only
      split
      · exact aheadT_up u h k _
      · exact backT_up u _ h _ _
theorem up0 (n : Int) : upU (n, 0) := Int.le_refl 0
theorem unstickT_up (l : LogN) (hl : 256 ≤ l.term ∧ l.term ≤ 8192) (pos : Int) : allO upU (unstickT l pos) := by
  unfold unstickT
  split
  · exact up0 _
  · rename_i h0
    have hp : 0 ≤ pos := by
      rcases Int.lt_or_le pos 0 with h | h
      · exact absurd (.inr (.inl h)) h0
      · exact h
    have hq : 0 ≤ pos / l.term := Int.ediv_nonneg hp (by omega)
    refine ⟨up0 _, fun x => ?_⟩
    dsimp only
    have ht : 0 ≤ pos / l.term * l.term + min (x.v % 4294967296) l.term := by
      have := Int.mul_nonneg hq (show 0 ≤ l.term by omega)
      omega
    split
    · exact up0 _
    · refine ⟨up0 _, fun y => ?_⟩
      dsimp only
      split
      · exact up0 _
      · split
        · exact padT_up _ _ ht
        · exact aheadT_up _ ht _ _
theorem allO_bind {A O O' : Type} {P : O → Prop} {P' : O' → Prop} {f : O → O'} {g : O → Pr A O'} (hf : ∀ o, P o → P' (f o)) (hg : ∀ o, P o → allO P' (g o)) : ∀ (p : Pr A O), allO P p → allO P' (p.bind f g)
  | .done o, h => hg o h
  | .ask o a k, h => ⟨hf o h.1, fun x => allO_bind hf hg (k x) (h.2 x)⟩
theorem subsT_up {M : Int} {o : WO} {fin : Int → Int → Pr Tld WO} (ho : upW o) (hf : ∀ a b, allO upW (fin a b)) : ∀ (r i : Nat) (least now : Int), allO upW (subsT M o fin i r least now)
  | 0, i, least, now => hf least now
  | r + 1, i, least, now => ⟨ho, fun x => subsT_up ho hf r (i + 1) _ _⟩
theorem watchT_up (l : LogN) (hl : 256 ≤ l.term ∧ l.term ≤ 8192) (timeout : Int) : ∀ (n : Nat) (s : WS), allO upW (watchT l timeout n s)
  | 0, s => Int.le_refl 0
  | n + 1, s => subsT_up (show upW (s.sum, 0, 0) from Int.le_refl 0) (fun least now => by
      split
      · exact watchT_up l hl timeout n _
      · split
        · exact allO_bind (P := upU) (P' := upW) (f := fun o : UO => (s.sum + o.1, if o.2 > 0 then least else 0, o.2)) (g := fun o : UO => watchT l timeout n ⟨s.sum + o.1, s.last, now, true⟩) (fun o h => h) (fun o _ => watchT_up l hl timeout n _) _ (unstickT_up l hl least)
        · exact watchT_up l hl timeout n _) _ _ _ _
end Go.Base
namespace Go.Base
open Go
def numF (B : Nat → Nat) (at_ : Nat) : Nat → Nat
  | 0 => 0
  | n + 1 => B at_ + 256 * numF B (at_ + 1) n
theorem numF_lt {B : Nat → Nat} (h : ∀ j, B j < 256) : ∀ (n a : Nat), numF B a n < 256 ^ n
  | 0, _ => by simp [numF]
  | n + 1, a => by
    have h1 := numF_lt h n (a + 1)
    have h2 := h a
    simp only [numF, Nat.pow_succ]
    omega
theorem numF_snoc (B : Nat → Nat) : ∀ (n a : Nat), numF B a (n + 1) = numF B a n + 256 ^ n * B (a + n)
  | 0, a => by simp [numF]
  | n + 1, a => by
    have h1 := numF_snoc B n (a + 1)
    rw [numF, h1, numF, Nat.mul_add, ← Nat.mul_assoc, Nat.pow_succ, Nat.mul_comm 256 (256 ^ n), show a + 1 + n = a + (n + 1) by omega]
    omega
theorem numF_or {B : Nat → Nat} (h : ∀ j, B j < 256) (n a : Nat) : numF B a n ||| B (a + n) * 2 ^ (8 * n) = numF B a (n + 1) := by
  have h1 : numF B a n < 2 ^ (8 * n) := by
    have := numF_lt h n a
    rwa [show (256 : Nat) = 2 ^ 8 by decide, ← Nat.pow_mul] at this
  rw [numF_snoc, show (256 : Nat) = 2 ^ 8 by decide, ← Nat.pow_mul, Nat.or_comm]
  have := Nat.shiftLeft_add_eq_or_of_lt h1 (B (a + n))
  rw [Nat.shiftLeft_eq] at this
  rw [← this, Nat.mul_comm (B (a + n))]
  omega
theorem numF_shift (B : Nat → Nat) (k : Nat) : ∀ (n a : Nat), numF (fun j => B (k + j)) a n = numF B (k + a) n
  | 0, _ => rfl
  | n + 1, a => by
    have := numF_shift B k n (a + 1)
    simp only [numF] at this ⊢
    rw [this, show k + (a + 1) = k + a + 1 by omega]
theorem numF_ext {B C : Nat → Nat} : ∀ (n a : Nat), (∀ j, a ≤ j → j < a + n → B j = C j) → numF B a n = numF C a n
  | 0, _, _ => rfl
  | n + 1, a, h => by
    rw [numF, numF, h a (by omega) (by omega), numF_ext n (a + 1) (fun j h1 h2 => h j (by omega) (by omega))]
theorem byte_num (v : Nat) (a : Nat) : ∀ (k : Nat), numF (fun j => v / 256 ^ j % 256) a k = v / 256 ^ a % 256 ^ k := by
  intro k
  induction k generalizing a with
  | zero => simp [numF, Nat.mod_one]
  | succ k ih =>
    rw [numF, ih (a + 1), Nat.pow_succ 256 k, Nat.mul_comm (256 ^ k) 256, Nat.mod_mul, Nat.pow_succ, ← Nat.div_div_eq_div_mul]
end Go.Base
