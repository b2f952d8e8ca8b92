/- Where a log stands: the program's reckoning. -/
import Derived.Test.YtlaogoehmndcjaaGreatDoorPlA
import Derived.Test.YtlaogoehmndcjaaGreatDoorProg
import Derived.WalkKit
import Derived.WalkSpells
import Derived.Lib.Hide
import Derived.Deep.RegionWith
import Derived.WalkSmall
import Derived.Deep.QuietTactic
import Derived.BigQuiet
set_option linter.unusedVariables false
namespace Go.Proofs.YtlaogoehmndcjaaGreatDoor.Ba
open Go Go.RowKit Go.Lib Go.Base
/-- a log as a value -/
structure Lg where
  base : Int
  term : Int
  mtu : Int
  subs : Int
  ini : Int
  ses : Int
  str : Int
def Lg.val (l : Lg) : Value := .agg #[.int .i64 l.base, .int .i64 l.term, .int .i64 l.mtu, .int .i64 l.subs, .int .i32 l.ini, .int .i32 l.ses, .int .i32 l.str]
def Lg.ok (l : Lg) : Prop := LogOk l.base l.term l.mtu l.subs
instance (l : Lg) : Decidable l.ok := by unfold Lg.ok; infer_instance
theorem wrap_small (n : Int) (h0 : -9223372036854775808 ≤ n) (h1 : n ≤ 9223372036854775807) : IntKind.i64.wrap n = n := by
  rw [IntKind.wrap_i64]; omega
theorem and_nat (x y : Nat) (hx : x < 9223372036854775808) (hy : y < 9223372036854775808) : bits .and .i64 (x : Int) (y : Int) = ((x &&& y : Nat) : Int) := by
  show IntKind.i64.wrap ((BitVec.ofInt 64 (x : Int) &&& BitVec.ofInt 64 (y : Int)).toNat : Int) = _
  rw [BitVec.toNat_and, ofInt_u64 x (by omega), ofInt_u64 y (by omega)]
  have : x &&& y ≤ x := Nat.and_le_left
  exact wrap_small _ (by omega) (by omega)
def isPow (n : Int) : Bool := decide (0 < n) && Nat.beq (n.toNat &&& (n.toNat - 1)) 0
theorem isPower_any (n : Int) (h1 : n ≤ 9223372036854775807) (w : World) : Calls Tryz.prog 114 #[.int .i64 n] w fun e w' => e = .returned (.bool (isPow n)) ∧ w' = w := by
  by_cases h0 : n > 0
  · obtain ⟨x, rfl⟩ : ∃ x : Nat, n = x := ⟨n.toNat, by omega⟩
    have key : bits .and .i64 (x : Int) ((x : Int) - 1) = ((x &&& (x - 1) : Nat) : Int) := by
      rw [show ((x : Int) - 1) = ((x - 1 : Nat) : Int) by omega]; exact and_nat x (x - 1) (by omega) (by omega)
    obtain ⟨y, hy⟩ : ∃ y, x &&& (x - 1) = y := ⟨_, rfl⟩
    have hp : isPow (x : Int) = Nat.beq y 0 := by
      unfold isPow
      rw [decide_eq_true h0, Bool.true_and, Int.toNat_natCast, hy]
    rw [hy] at key
    rw [hp]
    have hw : IntKind.i64.wrap ((x : Int) - 1) = (x : Int) - 1 := wrap_small _ (by omega) (by omega)
    cases hb : Nat.beq y 0 with
    | true =>
      have : y = 0 := by rw [Nat.beq_eq] at hb; exact hb
      subst this
      go_enter Tryz.func114, Tryz.ntmps114
      go_wp2
      go_ret
      exact ⟨by first | rfl | (simp; done) | (simp; omega), rfl⟩
    | false =>
      have hy0 : ((y : Int) == 0) = false := by
        have : y ≠ 0 := fun h => by subst h; simp at hb
        simp; omega
      go_enter Tryz.func114, Tryz.ntmps114
      go_wp2
      go_ret
      exact ⟨by first | rfl | (simp; done) | (simp; omega), rfl⟩
  · have hp : isPow n = false := by unfold isPow; rw [decide_eq_false h0, Bool.false_and]
    rw [hp]
    go_enter Tryz.func114, Tryz.ntmps114
    go_wp2
    go_ret
    exact ⟨by first | rfl | (simp; done) | (simp; omega), rfl⟩
theorem isTerm_iff (n : Int) : TermOk n ↔ isPow n = true ∧ 256 ≤ n ∧ n ≤ 8192 := by
  constructor
  · intro h
    rcases h with rfl | rfl | rfl | rfl | rfl | rfl <;> exact ⟨by decide, by omega, by omega⟩
  · rintro ⟨h1, h2, h3⟩
    obtain ⟨x, rfl⟩ : ∃ x : Nat, n = x := ⟨n.toNat, by omega⟩
    refine (pow_cases x (by omega) (by omega)).1 ?_
    unfold isPow at h1
    rw [decide_eq_true (by omega), Bool.true_and, Int.toNat_natCast, Nat.beq_eq] at h1
    exact h1
theorem isTerm_any (n : Int) (h1 : n ≤ 9223372036854775807) (w : World) : Calls Tryz.prog 62 #[.int .i64 n] w fun e w' => e = .returned (.bool (decide (TermOk n))) ∧ w' = w := by
  have c := fun W => isPower_any n h1 W
  have hiff := isTerm_iff n
  cases hb : isPow n with
  | false =>
    rw [hb] at c
    have hd : decide (TermOk n) = false := decide_eq_false (fun h => by have := (hiff.1 h).1; rw [hb] at this; cases this)
    rw [hd]
    clear hiff hb hd
    go_enter Tryz.func62, Tryz.ntmps62
    go_wp2_with (go_at_call 114; refine (c _).mono ?_; clear c; rintro e w1 ⟨rfl, rfl⟩)
    go_ret
    exact ⟨by first | rfl | (simp; done) | (simp; omega), rfl⟩
  | true =>
    rw [hb] at c
    by_cases h2 : n ≥ 256
    · by_cases h3 : n ≤ 8192
      · have hd : decide (TermOk n) = true := decide_eq_true (hiff.2 ⟨hb, by omega, h3⟩)
        rw [hd]
        clear hiff hb hd
        go_enter Tryz.func62, Tryz.ntmps62
        go_wp2_with (go_at_call 114; refine (c _).mono ?_; clear c; rintro e w1 ⟨rfl, rfl⟩)
        go_ret
        exact ⟨by first | rfl | (simp; done) | (simp; omega), rfl⟩
      · have hd : decide (TermOk n) = false := decide_eq_false (fun h => h3 (hiff.1 h).2.2)
        rw [hd]
        clear hiff hb hd
        go_enter Tryz.func62, Tryz.ntmps62
        go_wp2_with (go_at_call 114; refine (c _).mono ?_; clear c; rintro e w1 ⟨rfl, rfl⟩)
        go_ret
        exact ⟨by first | rfl | (simp; done) | (simp; omega), rfl⟩
    · have hd : decide (TermOk n) = false := decide_eq_false (fun h => h2 (hiff.1 h).2.1)
      rw [hd]
      clear hiff hb hd
      go_enter Tryz.func62, Tryz.ntmps62
      go_wp2_with (go_at_call 114; refine (c _).mono ?_; clear c; rintro e w1 ⟨rfl, rfl⟩)
      go_ret
      exact ⟨by first | rfl | (simp; done) | (simp; omega), rfl⟩
/-- numbers of their kinds -/
structure Lg.wf (l : Lg) : Prop where
  b0 : -9223372036854775808 ≤ l.base
  b1 : l.base ≤ 9223372036854775807
  t0 : -9223372036854775808 ≤ l.term
  t1 : l.term ≤ 9223372036854775807
  m0 : -9223372036854775808 ≤ l.mtu
  m1 : l.mtu ≤ 9223372036854775807
  s0 : -9223372036854775808 ≤ l.subs
  s1 : l.subs ≤ 9223372036854775807
theorem size_any (l : Lg) (h0 : 0 ≤ l.term) (h1 : l.term ≤ 100000) (w : World) : Calls Tryz.prog 63 #[l.val] w fun e w' => e = .returned (.int .i64 (3 * l.term + 128)) ∧ Below w.heap.size w w' := by
  obtain ⟨base, term, mtu, subs, ini, ses, str⟩ := l
  unfold Lg.val
  dsimp only at h0 h1 ⊢
  have k1 : IntKind.i64.wrap (3 * term) = 3 * term := wrap_small _ (by omega) (by omega)
  have k2 : IntKind.i64.wrap (3 * term + 128) = 3 * term + 128 := wrap_small _ (by omega) (by omega)
  go_enter Tryz.func63, Tryz.ntmps63
  go_wp2
  go_ret
  exact ⟨by first | rfl | simp, (Below.refl _ _).alloc (Nat.le_refl _) _⟩
theorem heap_new (w : World) (o : Obj) : (w.alloc o).heap[w.heap.size]? = some o := by
  show (w.heap.push _)[w.heap.size]? = _
  rw [Array.getElem?_push_size]
theorem blk7 {w : World} {b : Nat} {t : TypeId} {v0 v1 v2 v3 v4 v5 v6 : Value} (h : w.heap[b]? = some (.cells #[v0, v1, v2, v3, v4, v5, v6] t (0, 0))) : w.cell? ⟨b, 0, none⟩ = some v0 ∧ w.cell? ⟨b, 1, none⟩ = some v1 ∧ w.cell? ⟨b, 2, none⟩ = some v2 ∧ w.cell? ⟨b, 3, none⟩ = some v3 ∧ w.cell? ⟨b, 4, none⟩ = some v4 ∧ w.cell? ⟨b, 5, none⟩ = some v5 ∧ w.cell? ⟨b, 6, none⟩ = some v6 := by
  refine ⟨?_, ?_, ?_, ?_, ?_, ?_, ?_⟩ <;> simp [World.cell?, h]
def errOf (b : Bool) : Int := if b then 0 else 1
set_option maxRecDepth 1000000 in
set_option maxHeartbeats 6400000 in
theorem check_any (l : Lg) (hw : l.wf) (w : World) : Calls Tryz.prog 36 #[l.val] w fun e w' => e = .returned (.int .i64 (errOf (decide l.ok))) ∧ Below w.heap.size w w' := by
  have c1 := fun W => isTerm_any l.term hw.t1 W
  have hok : l.ok ↔ LogOk l.base l.term l.mtu l.subs := Iff.rfl
  by_cases ht : TermOk l.term
  · have hb : 256 ≤ l.term ∧ l.term ≤ 8192 := by rcases ht with h | h | h | h | h | h <;> omega
    have c2 := fun W => size_any l (by omega) (by omega) W
    rw [decide_eq_true ht] at c1
    obtain ⟨r, hr⟩ : ∃ r, decide l.ok = r := ⟨_, rfl⟩
    have hrr : r = true ↔ (32 ≤ l.mtu ∧ l.mtu ≤ l.term / 8 ∧ l.mtu % 32 = 0 ∧ 1 ≤ l.subs ∧ l.subs ≤ 8 ∧ 0 ≤ l.base ∧ l.base % 8 = 0 ∧ l.base ≤ 131072 - 3 * l.term - 128) := by
      rw [← hr, decide_eq_true_iff, hok]
      exact ⟨fun h => h.2, fun h => ⟨ht, h⟩⟩
    rw [hr]
    clear hr hok ht
    obtain ⟨base, term, mtu, subs, ini, ses, str⟩ := l
    unfold Lg.val at c2 ⊢
    obtain ⟨b0, b1, t0, t1, m0, m1, s0, s1⟩ := hw
    dsimp only at *
    have q1 : term.tdiv 8 = term / 8 := Int.tdiv_eq_ediv_of_nonneg (by omega)
    obtain ⟨q, hq⟩ : ∃ q, term / 8 = q := ⟨_, rfl⟩
    rw [hq] at q1 hrr
    have HR := Lib.hid hrr
    clear hrr
    go_enter Tryz.func36, Tryz.ntmps36
    by_cases h1 : mtu < 32
    · have hf : r = false := by cases r; rfl; have := (HR.out.1 rfl).1; omega
      subst hf
      go_wp2_with (go_at_call 62; refine (c1 _).mono ?_; clear c1; rintro e w1 ⟨rfl, rfl⟩)
      go_ret
      exact ⟨by first | rfl | simp [errOf], (Below.refl _ _).alloc (Nat.le_refl _) _⟩
    by_cases h2 : mtu > q
    · have hf : r = false := by cases r; rfl; have := (HR.out.1 rfl).2.1; omega
      subst hf
      go_wp2_with (go_at_call 62; refine (c1 _).mono ?_; clear c1; rintro e w1 ⟨rfl, rfl⟩)
      go_ret
      exact ⟨by first | rfl | simp [errOf], (Below.refl _ _).alloc (Nat.le_refl _) _⟩
    have q2 : mtu.tmod 32 = mtu % 32 := Int.tmod_eq_emod_of_nonneg (by omega)
    obtain ⟨rm, hrm⟩ : ∃ rm, mtu % 32 = rm := ⟨_, rfl⟩
    rw [hrm] at q2
    by_cases h3 : rm = 0
    · subst h3
      by_cases h4 : subs < 1
      · have hf : r = false := by cases r; rfl; have := (HR.out.1 rfl).2.2.2.1; omega
        subst hf
        go_wp2_with (go_at_call 62; refine (c1 _).mono ?_; clear c1; rintro e w1 ⟨rfl, rfl⟩)
        go_ret
        exact ⟨by first | rfl | simp [errOf], (Below.refl _ _).alloc (Nat.le_refl _) _⟩
      by_cases h5 : subs > 8
      · have hf : r = false := by cases r; rfl; have := (HR.out.1 rfl).2.2.2.2.1; omega
        subst hf
        go_wp2_with (go_at_call 62; refine (c1 _).mono ?_; clear c1; rintro e w1 ⟨rfl, rfl⟩)
        go_ret
        exact ⟨by first | rfl | simp [errOf], (Below.refl _ _).alloc (Nat.le_refl _) _⟩
      obtain ⟨W1, hW1⟩ : ∃ W1, w.alloc (.cells #[.int .i64 base, .int .i64 term, .int .i64 mtu, .int .i64 subs, .int .i32 ini, .int .i32 ses, .int .i32 str] 23) = W1 := ⟨_, rfl⟩
      obtain ⟨A, hA⟩ : ∃ A, w.heap.size = A := ⟨_, rfl⟩
      have u0 : W1.heap[A]? = some (.cells #[.int .i64 base, .int .i64 term, .int .i64 mtu, .int .i64 subs, .int .i32 ini, .int .i32 ses, .int .i32 str] 23 (0, 0)) := by rw [← hW1, ← hA]; exact heap_new _ _
      have u1 : Below A w W1 := by rw [← hW1, ← hA]; exact (Below.refl _ _).alloc (Nat.le_refl _) _
      have u2 : W1.heap.size = A + 1 := by rw [← hW1]; simp [hA]
      have HU := Lib.hid (And.intro u0 (And.intro u1 u2))
      obtain ⟨m0, m1, m2, m3, m4, m5, m6⟩ := blk7 u0
      clear u0 u1 u2
      have d1 : decide (mtu < 32) = false := decide_eq_false h1
      have d2 : decide (mtu > q) = false := decide_eq_false h2
      have d3 : decide (subs < 1) = false := decide_eq_false h4
      have d4 : decide (subs > 8) = false := decide_eq_false h5
      clear h1 h2 h4 h5
      have k3 : IntKind.i64.wrap (131072 - (3 * term + 128)) = 131072 - (3 * term + 128) := wrap_small _ (by omega) (by omega)
      by_cases h6 : base < 0
      · have d5 : decide (base < 0) = true := decide_eq_true h6
        have hf : r = false := by cases r; rfl; have := (HR.out.1 rfl).2.2.2.2.2.1; omega
        subst hf
        go_wp2_with (go_at_call 62; refine (c1 _).mono ?_; clear c1; rintro e w1 ⟨rfl, rfl⟩)
        go_region
        all_goals go_wp2
        all_goals go_ret
        all_goals refine ⟨by first | rfl | simp [errOf], ?_⟩
        all_goals (try rw [hA])
        all_goals first | exact HU.out.2.1.drew | exact below_drewN HU.out.2.1 _
      have d5 : decide (base < 0) = false := decide_eq_false h6
      have r2 : base.tmod 8 = base % 8 := Int.tmod_eq_emod_of_nonneg (by omega)
      obtain ⟨rb, hrb⟩ : ∃ rb, base % 8 = rb := ⟨_, rfl⟩
      rw [hrb] at r2
      have hb0 : 0 ≤ base := by omega
      clear h6
      by_cases h7 : rb = 0
      · subst h7
        by_cases h8 : base > 131072 - (3 * term + 128)
        · have hf : r = false := by cases r; rfl; have := (HR.out.1 rfl).2.2.2.2.2.2.2; omega
          have d8 : decide (base > 131072 - (3 * term + 128)) = true := decide_eq_true h8
          subst hf
          go_wp2_with (go_at_call 62; refine (c1 _).mono ?_; clear c1; rintro e w1 ⟨rfl, rfl⟩)
          go_region_with
          (go_at_call 63
           refine (c2 _).mono ?_
           clear c2
           rintro e w2 ⟨rfl, hB1⟩
           have v0 := (hB1.block A (by have := HU.out.2.2; simp; omega)).trans HU.out.1
           obtain ⟨n0, n1, n2, n3, n4, n5, n6⟩ := blk7 v0
           have HV := Lib.hid (HU.out.2.1.drew.trans (hB1.mono (by have := HU.out.2.2; simp; omega)))
           clear hB1 v0)
          all_goals go_wp2
          all_goals go_ret
          all_goals refine ⟨by first | rfl | simp [errOf], ?_⟩
          all_goals (try rw [hA])
          all_goals exact HV.out
        · have hf : r = true := HR.out.2 ⟨by have := d1; simp at this; omega, by have := d2; simp at this; omega, hrm, by have := d3; simp at this; omega, by have := d4; simp at this; omega, hb0, hrb, by omega⟩
          have d8 : decide (base > 131072 - (3 * term + 128)) = false := decide_eq_false h8
          subst hf
          go_wp2_with (go_at_call 62; refine (c1 _).mono ?_; clear c1; rintro e w1 ⟨rfl, rfl⟩)
          go_region_with
          (go_at_call 63
           refine (c2 _).mono ?_
           clear c2
           rintro e w2 ⟨rfl, hB1⟩
           have v0 := (hB1.block A (by have := HU.out.2.2; simp; omega)).trans HU.out.1
           obtain ⟨n0, n1, n2, n3, n4, n5, n6⟩ := blk7 v0
           have HV := Lib.hid (HU.out.2.1.drew.trans (hB1.mono (by have := HU.out.2.2; simp; omega)))
           clear hB1 v0)
          all_goals go_wp2
          all_goals go_ret
          all_goals refine ⟨by first | rfl | simp [errOf], ?_⟩
          all_goals (try rw [hA])
          all_goals exact HV.out
      · have hf : r = false := by cases r; rfl; have := (HR.out.1 rfl).2.2.2.2.2.2.1; omega
        have d7 : (rb != 0) = true := by simpa using h7
        subst hf
        go_wp2_with (go_at_call 62; refine (c1 _).mono ?_; clear c1; rintro e w1 ⟨rfl, rfl⟩)
        go_region
        all_goals go_wp2
        all_goals go_ret
        all_goals refine ⟨by first | rfl | simp [errOf], ?_⟩
        all_goals (try rw [hA])
        all_goals first | exact HU.out.2.1.drew | exact below_drewN HU.out.2.1 _
    · have hf : r = false := by cases r; rfl; have := (HR.out.1 rfl).2.2.1; omega
      have h3b : (rm != 0) = true := by simpa using h3
      subst hf
      go_wp2_with (go_at_call 62; refine (c1 _).mono ?_; clear c1; rintro e w1 ⟨rfl, rfl⟩)
      go_ret
      exact ⟨by first | rfl | simp [errOf], (Below.refl _ _).alloc (Nat.le_refl _) _⟩
  · rw [decide_eq_false ht] at c1
    have hr : decide l.ok = false := decide_eq_false (fun h => ht h.1)
    rw [hr]
    clear hr hok ht
    obtain ⟨base, term, mtu, subs, ini, ses, str⟩ := l
    unfold Lg.val
    dsimp only at *
    go_enter Tryz.func36, Tryz.ntmps36
    go_wp2_with (go_at_call 62; refine (c1 _).mono ?_; clear c1; rintro e w1 ⟨rfl, rfl⟩)
    go_ret
    exact ⟨by first | rfl | simp [errOf], (Below.refl _ _).alloc (Nat.le_refl _) _⟩
end Go.Proofs.YtlaogoehmndcjaaGreatDoor.Ba
