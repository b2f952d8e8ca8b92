/- BasePlain, Meta, Meta2: in one text. -/
import Derived.WalkKit
import Derived.Laws.DeepBits32
import Derived.Test.YtpbhfckefmboaaaGreatDoorProg
import Derived.WalkSpells
import Derived.Lib.Hide
import Derived.Deep.RegionWith
import Derived.WalkSmall
import Derived.Deep.QuietTactic
import Derived.BigQuiet
set_option linter.unusedVariables false
set_option linter.unusedSimpArgs false
set_option linter.unusedSectionVars false
namespace Go.Base
open Go
/-- the number of bytes, the lowest first -/
def leN : List Nat → Nat
  | [] => 0
  | b :: l => b + 256 * leN l
theorem leN_lt : ∀ (l : List Nat), (∀ b ∈ l, b < 256) → leN l < 256 ^ l.length
  | [], _ => by simp [leN]
  | b :: l, h => by
    have h1 := leN_lt l (fun x hx => h x (List.mem_cons_of_mem _ hx))
    have h2 := h b (List.mem_cons_self ..)
    simp only [leN, List.length_cons, Nat.pow_succ]
    omega
theorem leN_snoc : ∀ (l : List Nat) (c : Nat), leN (l ++ [c]) = leN l + 256 ^ l.length * c
  | [], c => by simp [leN]
  | b :: l, c => by
    simp only [List.cons_append, leN, List.length_cons, Nat.pow_succ, leN_snoc l c, Nat.mul_add]
    rw [Nat.mul_comm (256 ^ l.length) 256, Nat.mul_assoc]
    omega
/-- laid in from the lowest byte: with or -/
theorem or_step (l : List Nat) (h : ∀ b ∈ l, b < 256) (c : Nat) : leN l ||| c * 2 ^ (8 * l.length) = leN (l ++ [c]) := by
  have h1 : leN l < 2 ^ (8 * l.length) := by
    have := leN_lt l h
    rwa [show (256 : Nat) = 2 ^ 8 by decide, ← Nat.pow_mul] at this
  rw [leN_snoc, show (256 : Nat) = 2 ^ 8 by decide, ← Nat.pow_mul, Nat.or_comm]
  have := Nat.shiftLeft_add_eq_or_of_lt h1 c
  rw [Nat.shiftLeft_eq] at this
  rw [← this, Nat.mul_comm c]
  omega
/-- from the highest byte down -/
theorem leN_drop (l : List Nat) (i : Nat) (c : Nat) (h : l[i]? = some c) : leN (l.drop i) = c + 256 * leN (l.drop (i + 1)) := by
  obtain ⟨hi, he⟩ := List.getElem?_eq_some_iff.1 h
  rw [List.drop_eq_getElem_cons hi, he, leN]
/-- a term's size: a power of two from 256 to 8192 -/
def TermOk (n : Int) : Prop := n = 256 ∨ n = 512 ∨ n = 1024 ∨ n = 2048 ∨ n = 4096 ∨ n = 8192
instance (n : Int) : Decidable (TermOk n) := by unfold TermOk; infer_instance
/-- a log: base, term, mtu, subs -/
def LogOk (base term mtu subs : Int) : Prop := TermOk term ∧ 32 ≤ mtu ∧ mtu ≤ term / 8 ∧ mtu % 32 = 0 ∧ 1 ≤ subs ∧ subs ≤ 8 ∧ 0 ≤ base ∧ base % 8 = 0 ∧ base ≤ 131072 - 3 * term - 128
instance (a b c d : Int) : Decidable (LogOk a b c d) := by unfold LogOk; infer_instance
def powB (m : Nat) : Bool := !(Nat.ble 256 m && Nat.ble m 8192) || ((Nat.beq (m &&& (m - 1)) 0) == (Nat.beq m 256 || Nat.beq m 512 || Nat.beq m 1024 || Nat.beq m 2048 || Nat.beq m 4096 || Nat.beq m 8192))
theorem powB_all : ((List.range 33).all fun a => (List.range 256).all fun b => powB (256 * a + b)) = true := by decide +kernel
/-- a power of two in the bounds is one of six -/
theorem pow_cases (n : Nat) (h0 : 256 ≤ n) (h1 : n ≤ 8192) : (n &&& (n - 1) = 0) ↔ TermOk (n : Int) := by
  have key : powB n = true := by
    have h2 := List.all_eq_true.1 powB_all (n / 256) (List.mem_range.2 (by omega))
    have h3 := List.all_eq_true.1 h2 (n % 256) (List.mem_range.2 (by omega))
    rwa [Nat.div_add_mod] at h3
  have e1 : Nat.ble 256 n = true := by rw [Nat.ble_eq]; exact h0
  have e2 : Nat.ble n 8192 = true := by rw [Nat.ble_eq]; exact h1
  simp only [powB, e1, e2, Bool.and_self, Bool.not_true, Bool.false_or, beq_iff_eq] at key
  unfold TermOk
  constructor
  · intro h
    have h2 : Nat.beq (n &&& (n - 1)) 0 = true := by rw [Nat.beq_eq]; exact h
    rw [h2] at key
    have h3 := key.symm
    simp only [Bool.or_eq_true, Nat.beq_eq] at h3
    omega
  · intro h
    have h3 : (Nat.beq n 256 || Nat.beq n 512 || Nat.beq n 1024 || Nat.beq n 2048 || Nat.beq n 4096 || Nat.beq n 8192) = true := by
      simp only [Bool.or_eq_true, Nat.beq_eq]
      omega
    rw [h3] at key
    rw [Nat.beq_eq] at key
    exact key
end Go.Base
namespace Go.Proofs.YtpbhfckefmboaaaGreatDoor.Ba
open Go Go.RowKit Go.Lib Go.Base
/-- a log as a value -/
structure Lg where
  base : Int
  term : Int
  mtu : Int
  subs : Int
  ini : Int
  ses : Int
  str : Int
def Lg.val (l : Lg) : Value := .agg #[.int .i64 l.base, .int .i64 l.term, .int .i64 l.mtu, .int .i64 l.subs, .int .i32 l.ini, .int .i32 l.ses, .int .i32 l.str]
def Lg.ok (l : Lg) : Prop := LogOk l.base l.term l.mtu l.subs
instance (l : Lg) : Decidable l.ok := by unfold Lg.ok; infer_instance
theorem wrap_small (n : Int) (h0 : -9223372036854775808 ≤ n) (h1 : n ≤ 9223372036854775807) : IntKind.i64.wrap n = n := by
  rw [IntKind.wrap_i64]; omega
theorem and_nat (x y : Nat) (hx : x < 9223372036854775808) (hy : y < 9223372036854775808) : bits .and .i64 (x : Int) (y : Int) = ((x &&& y : Nat) : Int) := by
  show IntKind.i64.wrap ((BitVec.ofInt 64 (x : Int) &&& BitVec.ofInt 64 (y : Int)).toNat : Int) = _
  rw [BitVec.toNat_and, ofInt_u64 x (by omega), ofInt_u64 y (by omega)]
  have : x &&& y ≤ x := Nat.and_le_left
  exact wrap_small _ (by omega) (by omega)
def isPow (n : Int) : Bool := decide (0 < n) && Nat.beq (n.toNat &&& (n.toNat - 1)) 0
theorem isPower_any (n : Int) (h1 : n ≤ 9223372036854775807) (w : World) : Calls Tryz.prog 106 #[.int .i64 n] w fun e w' => e = .returned (.bool (isPow n)) ∧ w' = w := by
  by_cases h0 : n > 0
  · obtain ⟨x, rfl⟩ : ∃ x : Nat, n = x := ⟨n.toNat, by omega⟩
    have key : bits .and .i64 (x : Int) ((x : Int) - 1) = ((x &&& (x - 1) : Nat) : Int) := by
      rw [show ((x : Int) - 1) = ((x - 1 : Nat) : Int) by omega]; exact and_nat x (x - 1) (by omega) (by omega)
    obtain ⟨y, hy⟩ : ∃ y, x &&& (x - 1) = y := ⟨_, rfl⟩
    have hp : isPow (x : Int) = Nat.beq y 0 := by
      unfold isPow
      rw [decide_eq_true h0, Bool.true_and, Int.toNat_natCast, hy]
    rw [hy] at key
    rw [hp]
    have hw : IntKind.i64.wrap ((x : Int) - 1) = (x : Int) - 1 := wrap_small _ (by omega) (by omega)
    cases hb : Nat.beq y 0 with
    | true =>
      have : y = 0 := by rw [Nat.beq_eq] at hb; exact hb
      subst this
      go_enter Tryz.func106, Tryz.ntmps106
      go_wp2
      go_ret
      exact ⟨by first | rfl | (simp; done) | (simp; omega), rfl⟩
    | false =>
      have hy0 : ((y : Int) == 0) = false := by
        have : y ≠ 0 := fun h => by subst h; simp at hb
        simp; omega
      go_enter Tryz.func106, Tryz.ntmps106
      go_wp2
      go_ret
      exact ⟨by first | rfl | (simp; done) | (simp; omega), rfl⟩
  · have hp : isPow n = false := by unfold isPow; rw [decide_eq_false h0, Bool.false_and]
    rw [hp]
    go_enter Tryz.func106, Tryz.ntmps106
    go_wp2
    go_ret
    exact ⟨by first | rfl | (simp; done) | (simp; omega), rfl⟩
theorem isTerm_iff (n : Int) : TermOk n ↔ isPow n = true ∧ 256 ≤ n ∧ n ≤ 8192 := by
  constructor
  · intro h
    rcases h with rfl | rfl | rfl | rfl | rfl | rfl <;> exact ⟨by decide, by omega, by omega⟩
  · rintro ⟨h1, h2, h3⟩
    obtain ⟨x, rfl⟩ : ∃ x : Nat, n = x := ⟨n.toNat, by omega⟩
    refine (pow_cases x (by omega) (by omega)).1 ?_
    unfold isPow at h1
    rw [decide_eq_true (by omega), Bool.true_and, Int.toNat_natCast, Nat.beq_eq] at h1
    exact h1
theorem isTerm_any (n : Int) (h1 : n ≤ 9223372036854775807) (w : World) : Calls Tryz.prog 88 #[.int .i64 n] w fun e w' => e = .returned (.bool (decide (TermOk n))) ∧ w' = w := by
  have c := fun W => isPower_any n h1 W
  have hiff := isTerm_iff n
  cases hb : isPow n with
  | false =>
    rw [hb] at c
    have hd : decide (TermOk n) = false := decide_eq_false (fun h => by have := (hiff.1 h).1; rw [hb] at this; cases this)
    rw [hd]
    clear hiff hb hd
    go_enter Tryz.func88, Tryz.ntmps88
    go_wp2_with (go_at_call 106; refine (c _).mono ?_; clear c; rintro e w1 ⟨rfl, rfl⟩)
    go_ret
    exact ⟨by first | rfl | (simp; done) | (simp; omega), rfl⟩
  | true =>
    rw [hb] at c
    by_cases h2 : n ≥ 256
    · by_cases h3 : n ≤ 8192
      · have hd : decide (TermOk n) = true := decide_eq_true (hiff.2 ⟨hb, by omega, h3⟩)
        rw [hd]
        clear hiff hb hd
        go_enter Tryz.func88, Tryz.ntmps88
        go_wp2_with (go_at_call 106; refine (c _).mono ?_; clear c; rintro e w1 ⟨rfl, rfl⟩)
        go_ret
        exact ⟨by first | rfl | (simp; done) | (simp; omega), rfl⟩
      · have hd : decide (TermOk n) = false := decide_eq_false (fun h => h3 (hiff.1 h).2.2)
        rw [hd]
        clear hiff hb hd
        go_enter Tryz.func88, Tryz.ntmps88
        go_wp2_with (go_at_call 106; refine (c _).mono ?_; clear c; rintro e w1 ⟨rfl, rfl⟩)
        go_ret
        exact ⟨by first | rfl | (simp; done) | (simp; omega), rfl⟩
    · have hd : decide (TermOk n) = false := decide_eq_false (fun h => h2 (hiff.1 h).2.1)
      rw [hd]
      clear hiff hb hd
      go_enter Tryz.func88, Tryz.ntmps88
      go_wp2_with (go_at_call 106; refine (c _).mono ?_; clear c; rintro e w1 ⟨rfl, rfl⟩)
      go_ret
      exact ⟨by first | rfl | (simp; done) | (simp; omega), rfl⟩
/-- numbers of their kinds -/
structure Lg.wf (l : Lg) : Prop where
  b0 : -9223372036854775808 ≤ l.base
  b1 : l.base ≤ 9223372036854775807
  t0 : -9223372036854775808 ≤ l.term
  t1 : l.term ≤ 9223372036854775807
  m0 : -9223372036854775808 ≤ l.mtu
  m1 : l.mtu ≤ 9223372036854775807
  s0 : -9223372036854775808 ≤ l.subs
  s1 : l.subs ≤ 9223372036854775807
theorem size_any (l : Lg) (h0 : 0 ≤ l.term) (h1 : l.term ≤ 100000) (w : World) : Calls Tryz.prog 51 #[l.val] w fun e w' => e = .returned (.int .i64 (3 * l.term + 128)) ∧ Below w.heap.size w w' := by
  obtain ⟨base, term, mtu, subs, ini, ses, str⟩ := l
  unfold Lg.val
  dsimp only at h0 h1 ⊢
  have k1 : IntKind.i64.wrap (3 * term) = 3 * term := wrap_small _ (by omega) (by omega)
  have k2 : IntKind.i64.wrap (3 * term + 128) = 3 * term + 128 := wrap_small _ (by omega) (by omega)
  go_enter Tryz.func51, Tryz.ntmps51
  go_wp2
  go_ret
  exact ⟨by first | rfl | simp, (Below.refl _ _).alloc (Nat.le_refl _) _⟩
theorem heap_new (w : World) (o : Obj) : (w.alloc o).heap[w.heap.size]? = some o := by
  show (w.heap.push _)[w.heap.size]? = _
  rw [Array.getElem?_push_size]
theorem blk7 {w : World} {b : Nat} {t : TypeId} {v0 v1 v2 v3 v4 v5 v6 : Value} (h : w.heap[b]? = some (.cells #[v0, v1, v2, v3, v4, v5, v6] t (0, 0))) : w.cell? ⟨b, 0, none⟩ = some v0 ∧ w.cell? ⟨b, 1, none⟩ = some v1 ∧ w.cell? ⟨b, 2, none⟩ = some v2 ∧ w.cell? ⟨b, 3, none⟩ = some v3 ∧ w.cell? ⟨b, 4, none⟩ = some v4 ∧ w.cell? ⟨b, 5, none⟩ = some v5 ∧ w.cell? ⟨b, 6, none⟩ = some v6 := by
  refine ⟨?_, ?_, ?_, ?_, ?_, ?_, ?_⟩ <;> simp [World.cell?, h]
def errOf (b : Bool) : Int := if b then 0 else 1
set_option maxRecDepth 1000000 in
set_option maxHeartbeats 6400000 in
theorem check_any (l : Lg) (hw : l.wf) (w : World) : Calls Tryz.prog 49 #[l.val] w fun e w' => e = .returned (.int .i64 (errOf (decide l.ok))) ∧ Below w.heap.size w w' := by
  have c1 := fun W => isTerm_any l.term hw.t1 W
  have hok : l.ok ↔ LogOk l.base l.term l.mtu l.subs := Iff.rfl
  by_cases ht : TermOk l.term
  · have hb : 256 ≤ l.term ∧ l.term ≤ 8192 := by rcases ht with h | h | h | h | h | h <;> omega
    have c2 := fun W => size_any l (by omega) (by omega) W
    rw [decide_eq_true ht] at c1
    obtain ⟨r, hr⟩ : ∃ r, decide l.ok = r := ⟨_, rfl⟩
    have hrr : r = true ↔ (32 ≤ l.mtu ∧ l.mtu ≤ l.term / 8 ∧ l.mtu % 32 = 0 ∧ 1 ≤ l.subs ∧ l.subs ≤ 8 ∧ 0 ≤ l.base ∧ l.base % 8 = 0 ∧ l.base ≤ 131072 - 3 * l.term - 128) := by
      rw [← hr, decide_eq_true_iff, hok]
      exact ⟨fun h => h.2, fun h => ⟨ht, h⟩⟩
    rw [hr]
    clear hr hok ht
    obtain ⟨base, term, mtu, subs, ini, ses, str⟩ := l
    unfold Lg.val at c2 ⊢
    obtain ⟨b0, b1, t0, t1, m0, m1, s0, s1⟩ := hw
    dsimp only at *
    have q1 : term.tdiv 8 = term / 8 := Int.tdiv_eq_ediv_of_nonneg (by omega)
    obtain ⟨q, hq⟩ : ∃ q, term / 8 = q := ⟨_, rfl⟩
    rw [hq] at q1 hrr
    have HR := Lib.hid hrr
    clear hrr
    go_enter Tryz.func49, Tryz.ntmps49
    by_cases h1 : mtu < 32
    · have hf : r = false := by cases r; rfl; have := (HR.out.1 rfl).1; omega
      subst hf
      go_wp2_with (go_at_call 88; refine (c1 _).mono ?_; clear c1; rintro e w1 ⟨rfl, rfl⟩)
      go_ret
      exact ⟨by first | rfl | simp [errOf], (Below.refl _ _).alloc (Nat.le_refl _) _⟩
    by_cases h2 : mtu > q
    · have hf : r = false := by cases r; rfl; have := (HR.out.1 rfl).2.1; omega
      subst hf
      go_wp2_with (go_at_call 88; refine (c1 _).mono ?_; clear c1; rintro e w1 ⟨rfl, rfl⟩)
      go_ret
      exact ⟨by first | rfl | simp [errOf], (Below.refl _ _).alloc (Nat.le_refl _) _⟩
    have q2 : mtu.tmod 32 = mtu % 32 := Int.tmod_eq_emod_of_nonneg (by omega)
    obtain ⟨rm, hrm⟩ : ∃ rm, mtu % 32 = rm := ⟨_, rfl⟩
    rw [hrm] at q2
    by_cases h3 : rm = 0
    · subst h3
      by_cases h4 : subs < 1
      · have hf : r = false := by cases r; rfl; have := (HR.out.1 rfl).2.2.2.1; omega
        subst hf
        go_wp2_with (go_at_call 88; refine (c1 _).mono ?_; clear c1; rintro e w1 ⟨rfl, rfl⟩)
        go_ret
        exact ⟨by first | rfl | simp [errOf], (Below.refl _ _).alloc (Nat.le_refl _) _⟩
      by_cases h5 : subs > 8
      · have hf : r = false := by cases r; rfl; have := (HR.out.1 rfl).2.2.2.2.1; omega
        subst hf
        go_wp2_with (go_at_call 88; refine (c1 _).mono ?_; clear c1; rintro e w1 ⟨rfl, rfl⟩)
        go_ret
        exact ⟨by first | rfl | simp [errOf], (Below.refl _ _).alloc (Nat.le_refl _) _⟩
      obtain ⟨W1, hW1⟩ : ∃ W1, w.alloc (.cells #[.int .i64 base, .int .i64 term, .int .i64 mtu, .int .i64 subs, .int .i32 ini, .int .i32 ses, .int .i32 str] 23) = W1 := ⟨_, rfl⟩
      obtain ⟨A, hA⟩ : ∃ A, w.heap.size = A := ⟨_, rfl⟩
      have u0 : W1.heap[A]? = some (.cells #[.int .i64 base, .int .i64 term, .int .i64 mtu, .int .i64 subs, .int .i32 ini, .int .i32 ses, .int .i32 str] 23 (0, 0)) := by rw [← hW1, ← hA]; exact heap_new _ _
      have u1 : Below A w W1 := by rw [← hW1, ← hA]; exact (Below.refl _ _).alloc (Nat.le_refl _) _
      have u2 : W1.heap.size = A + 1 := by rw [← hW1]; simp [hA]
      have HU := Lib.hid (And.intro u0 (And.intro u1 u2))
      obtain ⟨m0, m1, m2, m3, m4, m5, m6⟩ := blk7 u0
      clear u0 u1 u2
      have d1 : decide (mtu < 32) = false := decide_eq_false h1
      have d2 : decide (mtu > q) = false := decide_eq_false h2
      have d3 : decide (subs < 1) = false := decide_eq_false h4
      have d4 : decide (subs > 8) = false := decide_eq_false h5
      clear h1 h2 h4 h5
      have k3 : IntKind.i64.wrap (131072 - (3 * term + 128)) = 131072 - (3 * term + 128) := wrap_small _ (by omega) (by omega)
      by_cases h6 : base < 0
      · have d5 : decide (base < 0) = true := decide_eq_true h6
        have hf : r = false := by cases r; rfl; have := (HR.out.1 rfl).2.2.2.2.2.1; omega
        subst hf
        go_wp2_with (go_at_call 88; refine (c1 _).mono ?_; clear c1; rintro e w1 ⟨rfl, rfl⟩)
        go_region
        all_goals go_wp2
        all_goals go_ret
        all_goals refine ⟨by first | rfl | simp [errOf], ?_⟩
        all_goals (try rw [hA])
        all_goals first | exact HU.out.2.1.drew | exact below_drewN HU.out.2.1 _
      have d5 : decide (base < 0) = false := decide_eq_false h6
      have r2 : base.tmod 8 = base % 8 := Int.tmod_eq_emod_of_nonneg (by omega)
      obtain ⟨rb, hrb⟩ : ∃ rb, base % 8 = rb := ⟨_, rfl⟩
      rw [hrb] at r2
      have hb0 : 0 ≤ base := by omega
      clear h6
      by_cases h7 : rb = 0
      · subst h7
        by_cases h8 : base > 131072 - (3 * term + 128)
        · have hf : r = false := by cases r; rfl; have := (HR.out.1 rfl).2.2.2.2.2.2.2; omega
          have d8 : decide (base > 131072 - (3 * term + 128)) = true := decide_eq_true h8
          subst hf
          go_wp2_with (go_at_call 88; refine (c1 _).mono ?_; clear c1; rintro e w1 ⟨rfl, rfl⟩)
          go_region_with
          (go_at_call 51
           refine (c2 _).mono ?_
           clear c2
           rintro e w2 ⟨rfl, hB1⟩
           have v0 := (hB1.block A (by have := HU.out.2.2; simp; omega)).trans HU.out.1
           obtain ⟨n0, n1, n2, n3, n4, n5, n6⟩ := blk7 v0
           have HV := Lib.hid (HU.out.2.1.drew.trans (hB1.mono (by have := HU.out.2.2; simp; omega)))
           clear hB1 v0)
          all_goals go_wp2
          all_goals go_ret
          all_goals refine ⟨by first | rfl | simp [errOf], ?_⟩
          all_goals (try rw [hA])
          all_goals exact HV.out
        · have hf : r = true := HR.out.2 ⟨by have := d1; simp at this; omega, by have := d2; simp at this; omega, hrm, by have := d3; simp at this; omega, by have := d4; simp at this; omega, hb0, hrb, by omega⟩
          have d8 : decide (base > 131072 - (3 * term + 128)) = false := decide_eq_false h8
          subst hf
          go_wp2_with (go_at_call 88; refine (c1 _).mono ?_; clear c1; rintro e w1 ⟨rfl, rfl⟩)
          go_region_with
          (go_at_call 51
           refine (c2 _).mono ?_
           clear c2
           rintro e w2 ⟨rfl, hB1⟩
           have v0 := (hB1.block A (by have := HU.out.2.2; simp; omega)).trans HU.out.1
           obtain ⟨n0, n1, n2, n3, n4, n5, n6⟩ := blk7 v0
           have HV := Lib.hid (HU.out.2.1.drew.trans (hB1.mono (by have := HU.out.2.2; simp; omega)))
           clear hB1 v0)
          all_goals go_wp2
          all_goals go_ret
          all_goals refine ⟨by first | rfl | simp [errOf], ?_⟩
          all_goals (try rw [hA])
          all_goals exact HV.out
      · have hf : r = false := by cases r; rfl; have := (HR.out.1 rfl).2.2.2.2.2.2.1; omega
        have d7 : (rb != 0) = true := by simpa using h7
        subst hf
        go_wp2_with (go_at_call 88; refine (c1 _).mono ?_; clear c1; rintro e w1 ⟨rfl, rfl⟩)
        go_region
        all_goals go_wp2
        all_goals go_ret
        all_goals refine ⟨by first | rfl | simp [errOf], ?_⟩
        all_goals (try rw [hA])
        all_goals first | exact HU.out.2.1.drew | exact below_drewN HU.out.2.1 _
    · have hf : r = false := by cases r; rfl; have := (HR.out.1 rfl).2.2.1; omega
      have h3b : (rm != 0) = true := by simpa using h3
      subst hf
      go_wp2_with (go_at_call 88; refine (c1 _).mono ?_; clear c1; rintro e w1 ⟨rfl, rfl⟩)
      go_ret
      exact ⟨by first | rfl | simp [errOf], (Below.refl _ _).alloc (Nat.le_refl _) _⟩
  · rw [decide_eq_false ht] at c1
    have hr : decide l.ok = false := decide_eq_false (fun h => ht h.1)
    rw [hr]
    clear hr hok ht
    obtain ⟨base, term, mtu, subs, ini, ses, str⟩ := l
    unfold Lg.val
    dsimp only at *
    go_enter Tryz.func49, Tryz.ntmps49
    go_wp2_with (go_at_call 88; refine (c1 _).mono ?_; clear c1; rintro e w1 ⟨rfl, rfl⟩)
    go_ret
    exact ⟨by first | rfl | simp [errOf], (Below.refl _ _).alloc (Nat.le_refl _) _⟩
end Go.Proofs.YtpbhfckefmboaaaGreatDoor.Ba
namespace Go.Proofs.YtpbhfckefmboaaaGreatDoor.Ba
open Go Go.RowKit Go.Lib Go.Base
theorem Lg.ok.bounds {l : Lg} (h : l.ok) : 0 ≤ l.base ∧ l.base ≤ 131072 ∧ 256 ≤ l.term ∧ l.term ≤ 8192 ∧ 1 ≤ l.subs ∧ l.subs ≤ 8 := by
  obtain ⟨ht, _, _, _, h1, h2, h3, _, h5⟩ := h
  rcases ht with h | h | h | h | h | h <;> (refine ⟨h3, by omega, by omega, by omega, h1, h2⟩)
theorem Lg.ok.wf {l : Lg} (h : l.ok) : l.wf := by
  have hm : l.mtu ≤ l.term / 8 := h.2.2.1
  have hm0 : 32 ≤ l.mtu := h.2.1
  obtain ⟨h1, h2, h3, h4, h5, h6⟩ := h.bounds
  exact ⟨by omega, by omega, by omega, by omega, by omega, by omega, by omega, by omega⟩
theorem check_ok (l : Lg) (h : l.ok) (w : World) : Calls Tryz.prog 49 #[l.val] w fun e w' => e = .returned (.int .i64 0) ∧ Below w.heap.size w w' := by
  have := check_any l h.wf w
  rw [decide_eq_true h] at this
  exact this
theorem numbers_any (l : Lg) (h : l.ok) (w : World) : Calls Tryz.prog 90 #[l.val] w fun e w' => e = .returned (.int .i64 (l.base + 3 * l.term)) ∧ Below w.heap.size w w' := by
  obtain ⟨h1, h2, h3, h4, h5, h6⟩ := h.bounds
  clear h
  obtain ⟨base, term, mtu, subs, ini, ses, str⟩ := l
  unfold Lg.val
  dsimp only at *
  have k1 : IntKind.i64.wrap (3 * term) = 3 * term := wrap_small _ (by omega) (by omega)
  have k2 : IntKind.i64.wrap (base + 3 * term) = base + 3 * term := wrap_small _ (by omega) (by omega)
  go_enter Tryz.func90, Tryz.ntmps90
  go_wp2
  go_ret
  exact ⟨by first | rfl | simp, (Below.refl _ _).alloc (Nat.le_refl _) _⟩
set_option maxRecDepth 1000000 in
set_option maxHeartbeats 3200000 in
theorem one_any (l : Lg) (h : l.ok) (fr i many wide : Int) (h0 : 0 ≤ i) (h1 : i < many) (hm : many ≤ 100) (hf0 : 0 ≤ fr) (hf1 : fr ≤ 1000000) (hw0 : 0 ≤ wide) (hw1 : wide ≤ 100000) (w : World) :
    Calls Tryz.prog 89 #[l.val, .int .i64 fr, .int .i64 i, .int .i64 many, .int .i64 wide] w fun e w' => e = .returned (.int .i64 (fr + i * wide)) ∧ Below w.heap.size w w' := by
  have c := fun W => check_ok l h W
  have hiw : 0 ≤ i * wide := Int.mul_nonneg h0 hw0
  have hiw2 : i * wide ≤ 100 * 100000 := Int.mul_le_mul (by omega) hw1 hw0 (by omega)
  have k1 : IntKind.i64.wrap (i * wide) = i * wide := wrap_small _ (by omega) (by omega)
  have k2 : IntKind.i64.wrap (fr + i * wide) = fr + i * wide := wrap_small _ (by omega) (by omega)
  have g1 : ¬ i < 0 := by omega
  have g2 : ¬ i ≥ many := by omega
  obtain ⟨p, hp⟩ : ∃ p, i * wide = p := ⟨_, rfl⟩
  rw [hp] at k1 k2 ⊢
  clear h
  obtain ⟨base, term, mtu, subs, ini, ses, str⟩ := l
  unfold Lg.val at c ⊢
  dsimp only at c ⊢
  have HS := Lib.hid (show Below w.heap.size w (w.alloc (.cells #[.int .i64 base, .int .i64 term, .int .i64 mtu, .int .i64 subs, .int .i32 ini, .int .i32 ses, .int .i32 str] 23)) ∧ (w.alloc (.cells #[.int .i64 base, .int .i64 term, .int .i64 mtu, .int .i64 subs, .int .i32 ini, .int .i32 ses, .int .i32 str] 23)).heap.size = w.heap.size + 1 from ⟨(Below.refl _ _).alloc (Nat.le_refl _) _, by simp⟩)
  go_enter Tryz.func89, Tryz.ntmps89
  go_wp2_with (go_at_call 49; refine (c _).mono ?_; clear c; rintro e w1 ⟨rfl, hB⟩; have HB := Lib.hid hB; clear hB)
  go_ret
  exact ⟨by first | rfl | simp, HS.out.1.trans (HB.out.mono (by have := HS.out.2; omega))⟩
set_option maxRecDepth 1000000 in
set_option maxHeartbeats 3200000 in
theorem tailAt_any (l : Lg) (h : l.ok) (p : Int) (h0 : 0 ≤ p) (h1 : p < 3) (w : World) :
    Calls Tryz.prog 53 #[l.val, .int .i64 p] w fun e w' => e = .returned (.int .i64 (l.base + 3 * l.term + p * 8)) ∧ Below w.heap.size w w' := by
  have hb := h.bounds
  have c1 := fun W => numbers_any l h W
  have c2 := fun W => one_any l h (l.base + 3 * l.term) p 3 8 h0 h1 (by omega) (by omega) (by omega) (by omega) (by omega) W
  clear h
  obtain ⟨base, term, mtu, subs, ini, ses, str⟩ := l
  unfold Lg.val at c1 c2 ⊢
  dsimp only at c1 c2 hb ⊢
  obtain ⟨m, hm⟩ : ∃ m, base + 3 * term = m := ⟨_, rfl⟩
  rw [hm] at c1 c2 ⊢
  obtain ⟨W1, hW1⟩ : ∃ W1, w.alloc (.cells #[.int .i64 base, .int .i64 term, .int .i64 mtu, .int .i64 subs, .int .i32 ini, .int .i32 ses, .int .i32 str] 23) = W1 := ⟨_, rfl⟩
  obtain ⟨A, hA⟩ : ∃ A, w.heap.size = A := ⟨_, rfl⟩
  have u0 : W1.heap[A]? = some (.cells #[.int .i64 base, .int .i64 term, .int .i64 mtu, .int .i64 subs, .int .i32 ini, .int .i32 ses, .int .i32 str] 23 (0, 0)) := by rw [← hW1, ← hA]; exact heap_new _ _
  have u1 : Below A w W1 := by rw [← hW1, ← hA]; exact (Below.refl _ _).alloc (Nat.le_refl _) _
  have u2 : W1.heap.size = A + 1 := by rw [← hW1]; simp [hA]
  have HU := Lib.hid (And.intro u0 (And.intro u1 u2))
  obtain ⟨m0, m1, m2, m3, m4, m5, m6⟩ := blk7 u0
  clear u0 u1 u2
  go_enter Tryz.func53, Tryz.ntmps53
  go_wp2_with fail
  go_region_with
  (first
    | (go_at_call 90
       refine (c1 _).mono ?_
       clear c1
       rintro e w2 ⟨rfl, hB1⟩
       have v0 := (hB1.block A (by have := HU.out.2.2; simp; omega)).trans HU.out.1
       obtain ⟨n0, n1, n2, n3, n4, n5, n6⟩ := blk7 v0
       have HV := Lib.hid (And.intro (HU.out.2.1.drew.trans (hB1.mono (by have := HU.out.2.2; simp; omega))) (show A + 1 ≤ w2.heap.size from Nat.le_trans (Nat.le_of_eq HU.out.2.2.symm) hB1.size))
       clear hB1 v0)
    | (go_at_call 89
       refine (c2 _).mono ?_
       clear c2
       rintro e w3 ⟨rfl, hB2⟩
       have HQ := Lib.hid (HV.out.1.trans (hB2.mono (by have := HV.out.2; first | omega | (simp; omega))))
       clear hB2))
  all_goals go_wp2
  all_goals go_ret
  all_goals refine ⟨by first | rfl | simp, ?_⟩
  all_goals (try rw [hA])
  all_goals exact HQ.out
end Go.Proofs.YtpbhfckefmboaaaGreatDoor.Ba
