/- DocR, WnE, WnF, WnG: in one text. -/
import Derived.Test.YtpbhfckefmboaaaGreatDoorGp04
import Derived.Test.YtpbhfckefmboaaaGreatDoorGp13
import Derived.Test.YtpbhfckefmboaaaGreatDoorGp14
set_option linter.unusedVariables false
set_option linter.unusedSimpArgs false
set_option linter.unusedSectionVars false
namespace Go.Proofs.YtpbhfckefmboaaaGreatDoor.Ba
open Go Go.RowKit Go.Lib Go.Base
set_option maxHeartbeats 3200000 in
set_option maxRecDepth 1000000 in
theorem isTermR_any (n : Int) (w : World) : Calls Tryz.prog 83 #[.int .i64 n] w fun e w' => e = .returned (.bool (decide (TermOk n))) ∧ w' = w := by
  by_cases h : TermOk n
  · rw [decide_eq_true h]
    rcases h with rfl | rfl | rfl | rfl | rfl | rfl
    all_goals go_enter Tryz.func83, Tryz.ntmps83
    all_goals go_wp2
    all_goals refine wp_loop_rounds 7 ?_
    all_goals (iterate 8 (try rw [rounds_succ]; go_wp2))
    all_goals go_ret
    all_goals exact ⟨rfl, rfl⟩
  · rw [decide_eq_false h]
    have h1 : ¬ (256 : Int) = n := fun e => h (by unfold TermOk; omega)
    have h2 : ¬ (512 : Int) = n := fun e => h (by unfold TermOk; omega)
    have h3 : ¬ (1024 : Int) = n := fun e => h (by unfold TermOk; omega)
    have h4 : ¬ (2048 : Int) = n := fun e => h (by unfold TermOk; omega)
    have h5 : ¬ (4096 : Int) = n := fun e => h (by unfold TermOk; omega)
    have h6 : ¬ (8192 : Int) = n := fun e => h (by unfold TermOk; omega)
    go_enter Tryz.func83, Tryz.ntmps83
    go_wp2
    refine wp_loop_rounds 7 ?_
    iterate 8 (try rw [rounds_succ]; go_wp2)
    go_ret
    exact ⟨rfl, rfl⟩
set_option maxHeartbeats 3200000 in
set_option maxRecDepth 1000000 in
theorem rightR_any (l : Lg) (hw : l.wf) (w : World) : Calls Tryz.prog 40 #[l.val] w fun e w' => e = .returned (.bool (decide l.ok)) ∧ Below w.heap.size w w' := by
  have c1 := fun W => isTermR_any l.term W
  have hok : l.ok ↔ LogOk l.base l.term l.mtu l.subs := Iff.rfl
  by_cases ht : TermOk l.term
  · have hb : 256 ≤ l.term ∧ l.term ≤ 8192 := by rcases ht with h | h | h | h | h | h <;> omega
    rw [decide_eq_true ht] at c1
    obtain ⟨r, hr⟩ : ∃ r, decide l.ok = r := ⟨_, rfl⟩
    have hrr : r = true ↔ (32 ≤ l.mtu ∧ l.mtu ≤ l.term / 8 ∧ l.mtu % 32 = 0 ∧ 1 ≤ l.subs ∧ l.subs ≤ 8 ∧ 0 ≤ l.base ∧ l.base % 8 = 0 ∧ l.base ≤ 131072 - 3 * l.term - 128) := by
      rw [← hr, decide_eq_true_iff, hok]
      exact ⟨fun h => h.2, fun h => ⟨ht, h⟩⟩
    rw [hr]
    clear hr hok ht
    obtain ⟨base, term, mtu, subs, ini, ses, str⟩ := l
    unfold Lg.val
    obtain ⟨b0, b1, t0, t1, m0, m1, s0, s1⟩ := hw
    dsimp only at *
    have q1 : term.tdiv 8 = term / 8 := Int.tdiv_eq_ediv_of_nonneg (by omega)
    have k1 : IntKind.i64.wrap (3 * term) = 3 * term := wrap_small _ (by omega) (by omega)
    have k2 : IntKind.i64.wrap (131072 - 3 * term) = 131072 - 3 * term := wrap_small _ (by omega) (by omega)
    have k3 : IntKind.i64.wrap (131072 - 3 * term - 128) = 131072 - 3 * term - 128 := wrap_small _ (by omega) (by omega)
    obtain ⟨q, hq⟩ : ∃ q, term / 8 = q := ⟨_, rfl⟩
    rw [hq] at q1 hrr
    have HR := Lib.hid hrr
    clear hrr
    by_cases g1 : mtu < 32
    · obtain rfl : r = false := by cases r; rfl; have := (HR.out.1 rfl).1; omega
      go_enter Tryz.func40, Tryz.ntmps40
      go_wp2_with (go_at_call 83; refine (c1 _).mono ?_; clear c1; rintro e w1 ⟨rfl, rfl⟩)
      go_ret
      exact ⟨rfl, (Below.refl _ _).alloc (Nat.le_refl _) _⟩
    by_cases g2 : mtu > q
    · obtain rfl : r = false := by cases r; rfl; have := (HR.out.1 rfl).2.1; omega
      go_enter Tryz.func40, Tryz.ntmps40
      go_wp2_with (go_at_call 83; refine (c1 _).mono ?_; clear c1; rintro e w1 ⟨rfl, rfl⟩)
      go_ret
      exact ⟨rfl, (Below.refl _ _).alloc (Nat.le_refl _) _⟩
    have q2 : mtu.tmod 32 = mtu % 32 := Int.tmod_eq_emod_of_nonneg (by omega)
    obtain ⟨rm, hrm⟩ : ∃ rm, mtu % 32 = rm := ⟨_, rfl⟩
    rw [hrm] at q2
    by_cases g3 : ¬ rm = 0
    · obtain rfl : r = false := by cases r; rfl; have := (HR.out.1 rfl).2.2.1; omega
      go_enter Tryz.func40, Tryz.ntmps40
      go_wp2_with (go_at_call 83; refine (c1 _).mono ?_; clear c1; rintro e w1 ⟨rfl, rfl⟩)
      go_ret
      exact ⟨by first | rfl | (simp; done) | (simp; omega), (Below.refl _ _).alloc (Nat.le_refl _) _⟩
    by_cases g4 : subs < 1
    · obtain rfl : r = false := by cases r; rfl; have := (HR.out.1 rfl).2.2.2.1; omega
      go_enter Tryz.func40, Tryz.ntmps40
      go_wp2_with (go_at_call 83; refine (c1 _).mono ?_; clear c1; rintro e w1 ⟨rfl, rfl⟩)
      go_ret
      exact ⟨by first | rfl | (simp; done) | (simp; omega), (Below.refl _ _).alloc (Nat.le_refl _) _⟩
    by_cases g5 : subs > 8
    · obtain rfl : r = false := by cases r; rfl; have := (HR.out.1 rfl).2.2.2.2.1; omega
      go_enter Tryz.func40, Tryz.ntmps40
      go_wp2_with (go_at_call 83; refine (c1 _).mono ?_; clear c1; rintro e w1 ⟨rfl, rfl⟩)
      go_ret
      exact ⟨by first | rfl | (simp; done) | (simp; omega), (Below.refl _ _).alloc (Nat.le_refl _) _⟩
    obtain rfl : rm = 0 := by omega
    by_cases g6 : ¬ base ≥ 0
    · obtain rfl : r = false := by cases r; rfl; have := (HR.out.1 rfl).2.2.2.2.2.1; omega
      go_enter Tryz.func40, Tryz.ntmps40
      go_wp2_with (go_at_call 83; refine (c1 _).mono ?_; clear c1; rintro e w1 ⟨rfl, rfl⟩)
      go_ret
      exact ⟨by first | rfl | (simp; done) | (simp; omega), (Below.refl _ _).alloc (Nat.le_refl _) _⟩
    have q3 : base.tmod 8 = base % 8 := Int.tmod_eq_emod_of_nonneg (by omega)
    obtain ⟨rb, hrb⟩ : ∃ rb, base % 8 = rb := ⟨_, rfl⟩
    rw [hrb] at q3
    by_cases g7 : ¬ rb = 0
    · obtain rfl : r = false := by cases r; rfl; have := (HR.out.1 rfl).2.2.2.2.2.2.1; omega
      go_enter Tryz.func40, Tryz.ntmps40
      go_wp2_with (go_at_call 83; refine (c1 _).mono ?_; clear c1; rintro e w1 ⟨rfl, rfl⟩)
      go_ret
      exact ⟨by first | rfl | (simp; done) | (simp; omega), (Below.refl _ _).alloc (Nat.le_refl _) _⟩
    obtain rfl : rb = 0 := by omega
    by_cases g8 : ¬ base ≤ 131072 - 3 * term - 128
    · obtain rfl : r = false := by cases r; rfl; have := (HR.out.1 rfl).2.2.2.2.2.2.2; omega
      go_enter Tryz.func40, Tryz.ntmps40
      go_wp2_with (go_at_call 83; refine (c1 _).mono ?_; clear c1; rintro e w1 ⟨rfl, rfl⟩)
      go_ret
      exact ⟨by first | rfl | (simp; done) | (simp; omega), (Below.refl _ _).alloc (Nat.le_refl _) _⟩
    obtain rfl : r = true := HR.out.2 ⟨by omega, by omega, hrm, by omega, by omega, by omega, hrb, by omega⟩
    have g9 : base ≤ 131072 - 3 * term - 128 := by omega
    have g10 : base ≥ 0 := by omega
    go_enter Tryz.func40, Tryz.ntmps40
    go_wp2_with (go_at_call 83; refine (c1 _).mono ?_; clear c1; rintro e w1 ⟨rfl, rfl⟩)
    go_ret
    exact ⟨by first | rfl | (simp; done) | (simp; omega), (Below.refl _ _).alloc (Nat.le_refl _) _⟩
  · have hd : decide l.ok = false := decide_eq_false (fun h => ht (hok.1 h).1)
    rw [hd]
    rw [decide_eq_false ht] at c1
    clear hok hd ht
    obtain ⟨base, term, mtu, subs, ini, ses, str⟩ := l
    unfold Lg.val
    dsimp only at *
    go_enter Tryz.func40, Tryz.ntmps40
    go_wp2_with (go_at_call 83; refine (c1 _).mono ?_; clear c1; rintro e w1 ⟨rfl, rfl⟩)
    go_ret
    exact ⟨by first | rfl | (simp; done) | (simp; omega), (Below.refl _ _).alloc (Nat.le_refl _) _⟩
end Go.Proofs.YtpbhfckefmboaaaGreatDoor.Ba
namespace Go.Proofs.YtpbhfckefmboaaaGreatDoor.Ba
open Go Go.RowKit Go.Lib Go.Base
set_option maxHeartbeats 3200000 in
set_option maxRecDepth 100000 in
theorem wcheckR_any {w : World} {l : Lg} {s : Sp} (hw : l.wf) :
    Calls Tryz.prog 13 #[.agg (spC l s)] w fun e w' => e = .returned (.int .i64 (spErr l s)) ∧ Below w.heap.size w w' := by
  have cC := fun W => rightR_any l hw W
  unfold Lg.val at cC
  unfold spC
  obtain ⟨X, hX⟩ : ∃ X, w.heap.size = X := ⟨_, rfl⟩
  obtain ⟨V1, hV1⟩ : ∃ V, w.alloc (.cells #[.int .i64 l.base, .int .i64 l.term, .int .i64 l.mtu, .int .i64 l.subs, .int .i32 l.ini, .int .i32 l.ses, .int .i32 l.str, .slice s.wa s.wn s.wc, .int .i64 s.tries, .int .i64 s.polls, .int .i64 s.most, .int .i64 s.cleans, .int .i64 s.timeout, .int .i64 s.looks] 26) = V := ⟨_, rfl⟩
  obtain ⟨b1, r1, s1⟩ := at_new hV1
  rw [hX] at r1 s1 b1
  obtain ⟨c0, c1, c2, c3, c4, c5, c6, c7, c8, c9, c10, c11, c12, c13⟩ := blk14 r1
  have H := Lib.hid (And.intro b1 r1)
  clear b1 r1
  by_cases hl : l.ok
  · have cC' : ∀ W, Calls Tryz.prog 40 #[.agg #[.int .i64 l.base, .int .i64 l.term, .int .i64 l.mtu, .int .i64 l.subs, .int .i32 l.ini, .int .i32 l.ses, .int .i32 l.str]] W fun e w' => e = .returned (.bool true) ∧ Below W.heap.size W w' := fun W => by simpa [hl] using cC W
    clear cC
    by_cases h1 : s.timeout < 0
    · have hz : spErr l s = 1 := by simp [spErr, h1]
      rw [hz]
      clear hz hl
      go_enter Tryz.func13, Tryz.ntmps13
      go_wp2_with (go_at_call 40; refine (cC' _).mono ?_; rintro e w2 ⟨rfl, hB⟩; have b2 := (hB.block X (by omega)).trans H.out.2; obtain ⟨d0, d1, d2, d3, d4, d5, d6, d7, d8, d9, d10, d11, d12, d13⟩ := blk14 b2; have H2 := Lib.hid hB; clear hB b2)
      go_ret
      exact ⟨rfl, by rw [hX]; exact H.out.1.trans (H2.out.mono (by omega))⟩
    · by_cases h2 : s.timeout > 1099511627776
      · have hz : spErr l s = 1 := by unfold spErr; rw [if_pos (by omega)]
        rw [hz]
        clear hz hl
        go_enter Tryz.func13, Tryz.ntmps13
        go_wp2_with (go_at_call 40; refine (cC' _).mono ?_; rintro e w2 ⟨rfl, hB⟩; have b2 := (hB.block X (by omega)).trans H.out.2; obtain ⟨d0, d1, d2, d3, d4, d5, d6, d7, d8, d9, d10, d11, d12, d13⟩ := blk14 b2; have H2 := Lib.hid hB; clear hB b2)
        go_ret
        exact ⟨rfl, by rw [hX]; exact H.out.1.trans (H2.out.mono (by omega))⟩
      · by_cases h3 : (s.wn : Int) > 8
        · have hz : spErr l s = 12 := by unfold spErr; rw [if_neg (by simp only [not_or, Classical.not_not]; exact ⟨hl, h1, h2⟩), if_pos h3]
          rw [hz]
          clear hz hl
          go_enter Tryz.func13, Tryz.ntmps13
          go_wp2_with (go_at_call 40; refine (cC' _).mono ?_; rintro e w2 ⟨rfl, hB⟩; have b2 := (hB.block X (by omega)).trans H.out.2; obtain ⟨d0, d1, d2, d3, d4, d5, d6, d7, d8, d9, d10, d11, d12, d13⟩ := blk14 b2; have H2 := Lib.hid hB; clear hB b2)
          go_ret
          exact ⟨rfl, by rw [hX]; exact H.out.1.trans (H2.out.mono (by omega))⟩
        · have hz : spErr l s = 0 := by unfold spErr; rw [if_neg (by simp only [not_or, Classical.not_not]; exact ⟨hl, h1, h2⟩), if_neg h3]
          rw [hz]
          clear hz hl
          go_enter Tryz.func13, Tryz.ntmps13
          go_wp2_with (go_at_call 40; refine (cC' _).mono ?_; rintro e w2 ⟨rfl, hB⟩; have b2 := (hB.block X (by omega)).trans H.out.2; obtain ⟨d0, d1, d2, d3, d4, d5, d6, d7, d8, d9, d10, d11, d12, d13⟩ := blk14 b2; have H2 := Lib.hid hB; clear hB b2)
          go_ret
          exact ⟨rfl, by rw [hX]; exact H.out.1.trans (H2.out.mono (by omega))⟩
  · have cC' : ∀ W, Calls Tryz.prog 40 #[.agg #[.int .i64 l.base, .int .i64 l.term, .int .i64 l.mtu, .int .i64 l.subs, .int .i32 l.ini, .int .i32 l.ses, .int .i32 l.str]] W fun e w' => e = .returned (.bool false) ∧ Below W.heap.size W w' := fun W => by simpa [hl] using cC W
    clear cC
    have hz : spErr l s = 1 := by unfold spErr; rw [if_pos (.inl hl)]
    rw [hz]
    clear hz hl
    go_enter Tryz.func13, Tryz.ntmps13
    go_wp2_with (go_at_call 40; refine (cC' _).mono ?_; rintro e w2 ⟨rfl, hB⟩; have b2 := (hB.block X (by omega)).trans H.out.2; obtain ⟨d0, d1, d2, d3, d4, d5, d6, d7, d8, d9, d10, d11, d12, d13⟩ := blk14 b2; have H2 := Lib.hid hB; clear hB b2)
    go_ret
    exact ⟨rfl, by rw [hX]; exact H.out.1.trans (H2.out.mono (by omega))⟩
/-- how many acts each writer has, as the setup's row of rows tells -/
def LensAt (w : World) (s : Sp) (ls : List Nat) : Prop := ls.length = s.wn ∧ ∀ (j m : Nat), ls[j]? = some m → ∃ gb go la lc, s.wa = some ⟨gb, go, none⟩ ∧ gb < w.heap.size ∧ w.cell? ⟨gb, go + j, none⟩ = some (.slice la m lc)
/-- acts that are done at most -/
def actsS (ls : List Nat) : Nat := (ls.map fun m => min m 64).sum
theorem actsS_take (ls : List Nat) {i m : Nat} (h : ls[i]? = some m) : actsS (ls.take (i + 1)) = actsS (ls.take i) + min m 64 := by
  unfold actsS
  rw [List.take_add_one, h]
  simp
theorem actsS_le (ls : List Nat) : actsS ls ≤ 64 * ls.length := by
  unfold actsS
  induction ls with
  | nil => simp
  | cons a l ih => simp only [List.map_cons, List.sum_cons, List.length_cons]; omega
set_option maxHeartbeats 3200000 in
set_option maxRecDepth 100000 in
theorem acts_any {w : World} {l : Lg} {s : Sp} {ls : List Nat} (hls : LensAt w s ls) (hn : s.wn ≤ 100) (hm : ∀ m ∈ ls, m ≤ 1000) :
    Calls Tryz.prog 41 #[.agg (spC l s)] w fun e w' => e = .returned (.int .i64 (actsS ls : Int)) ∧ Below w.heap.size w w' := by
  unfold spC
  obtain ⟨X, hX⟩ : ∃ X, w.heap.size = X := ⟨_, rfl⟩
  obtain ⟨wa, hwa0⟩ : ∃ wa, s.wa = wa := ⟨_, rfl⟩
  rw [hwa0]
  obtain ⟨V1, hV1⟩ : ∃ V, w.alloc (.cells #[.int .i64 l.base, .int .i64 l.term, .int .i64 l.mtu, .int .i64 l.subs, .int .i32 l.ini, .int .i32 l.ses, .int .i32 l.str, .slice wa s.wn s.wc, .int .i64 s.tries, .int .i64 s.polls, .int .i64 s.most, .int .i64 s.cleans, .int .i64 s.timeout, .int .i64 s.looks] 26) = V := ⟨_, rfl⟩
  obtain ⟨b1, r1, s1⟩ := at_new hV1
  rw [hX] at r1 s1 b1
  obtain ⟨c0, c1, c2, c3, c4, c5, c6, c7, c8, c9, c10, c11, c12, c13⟩ := blk14 r1
  have H := Lib.hid (And.intro b1 (And.intro hls (And.intro hm hwa0)))
  clear b1 r1 hls hm hwa0
  go_enter Tryz.func41, Tryz.ntmps41
  go_wp2_with fail
  clear c0 c1 c2 c3 c4 c5 c6 c7 c8 c9 c10 c11 c12 c13
  go_loopw [3, 9] (fun nn ii wr => ∃ i : Nat, ii = .int .i64 (i : Int) ∧ i ≤ s.wn ∧ nn = .int .i64 (actsS (ls.take i) : Int) ∧ Hid (Below X w wr)) (fun _ ii _ => ((200 : Int) - intOf ii).toNat)
  case atStart => exact ⟨0, rfl, Nat.zero_le _, by simp [actsS], Lib.hid H.out.1⟩
  case round =>
    obtain ⟨i, rfl, hi, rfl, HB⟩ := hrel
    by_cases hlt : i < s.wn
    · obtain ⟨m, hmi⟩ : ∃ m, ls[i]? = some m := ⟨ls[i]'(by rw [H.out.2.1.1]; exact hlt), by simp⟩
      obtain ⟨gb, go, la, lc, hwa, hgb, cj⟩ := H.out.2.1.2 i m hmi
      have hmb := H.out.2.2.1 m (List.mem_of_getElem? hmi)
      obtain rfl : wa = some ⟨gb, go, none⟩ := H.out.2.2.2.symm.trans hwa
      have kj : wr.cell? ⟨gb, go + i, none⟩ = some (.slice la m lc) := (HB.out.cell (p := ⟨gb, go + i, none⟩) (hX ▸ hgb)).trans cj
      have h0 : (0 : Int) ≤ (i : Int) := by omega
      have h1 : (i : Int) < (s.wn : Int) := by omega
      have qi : IntKind.i64.wrap ((i : Int) + 1) = (i : Int) + 1 := wrap_small _ (by omega) (by omega)
      have hsum := actsS_take ls hmi
      have hle := actsS_le (ls.take i)
      have hle2 : (ls.take i).length ≤ 100 := by rw [List.length_take]; omega
      obtain ⟨A, hA⟩ : ∃ A, actsS (ls.take i) = A := ⟨_, rfl⟩
      rw [hA] at hsum hle
      have hA2 : A ≤ 6400 := by omega
      clear hwa cj hgb hle hle2
      by_cases h64 : (m : Int) ≤ 64
      · have q1 : IntKind.i64.wrap ((A : Int) + (m : Int)) = (A : Int) + (m : Int) := wrap_small _ (by omega) (by omega)
        go_wp2_with fail
        go_roundw
        case measure => simp [intOf]; omega
        case rel => exact ⟨i + 1, by simp, by omega, by rw [hsum]; simp; omega, HB⟩
      · have q1 : IntKind.i64.wrap ((A : Int) + 64) = (A : Int) + 64 := wrap_small _ (by omega) (by omega)
        go_wp2_with fail
        go_roundw
        case measure => simp [intOf]; omega
        case rel => exact ⟨i + 1, by simp, by omega, by rw [hsum]; simp; omega, HB⟩
    · have hin : i = s.wn := by omega
      subst hin
      have hall : ls.take s.wn = ls := by rw [← H.out.2.1.1, List.take_length]
      rw [hall]
      clear hi
      go_wp2
      go_ret
      exact ⟨rfl, by rw [hX]; exact HB.out⟩
end Go.Proofs.YtpbhfckefmboaaaGreatDoor.Ba
namespace Go.Proofs.YtpbhfckefmboaaaGreatDoor.Ba
open Go Go.RowKit Go.Lib Go.Base
/-- what a round of all takes at most, and the bound -/
def eachS (l : Lg) (s : Sp) : Int := s.timeout + (16 * l.subs + 2 * l.term + 400)
def bndS (l : Lg) (s : Sp) (ls : List Nat) : Int := min (((actsS ls : Int) + (s.wn : Int) + 2) * eachS l s) 65536
set_option maxHeartbeats 3200000 in
set_option maxRecDepth 100000 in
theorem brounds_no {w : World} {l : Lg} {s : Sp} (hw : l.wf) (hz : spErr l s ≠ 0) :
    Calls Tryz.prog 14 #[.agg (spC l s)] w fun e w' => e = .returned (.tuple #[.int .i64 0, .int .i64 (spErr l s)]) ∧ Below w.heap.size w w' := by
  have cC := fun W => wnew_no (w := W) hw hz
  obtain ⟨er, her⟩ : ∃ er, spErr l s = er := ⟨_, rfl⟩
  rw [her] at cC hz ⊢
  have ne : ¬ er = 0 := hz
  unfold spC at cC ⊢
  obtain ⟨X, hX⟩ : ∃ X, w.heap.size = X := ⟨_, rfl⟩
  obtain ⟨V1, hV1⟩ : ∃ V, w.alloc (.cells #[.int .i64 l.base, .int .i64 l.term, .int .i64 l.mtu, .int .i64 l.subs, .int .i32 l.ini, .int .i32 l.ses, .int .i32 l.str, .slice s.wa s.wn s.wc, .int .i64 s.tries, .int .i64 s.polls, .int .i64 s.most, .int .i64 s.cleans, .int .i64 s.timeout, .int .i64 s.looks] 26) = V := ⟨_, rfl⟩
  obtain ⟨b1, r1, s1⟩ := at_new hV1
  rw [hX] at r1 s1 b1
  obtain ⟨c0, c1, c2, c3, c4, c5, c6, c7, c8, c9, c10, c11, c12, c13⟩ := blk14 r1
  have H := Lib.hid b1
  clear b1 r1
  go_enter Tryz.func14, Tryz.ntmps14
  go_wp2_with (go_at_call 8; refine (cC _).mono ?_; rintro e w2 ⟨rfl, hB⟩; have H2 := Lib.hid hB; clear hB)
  refine bodyPost_ret (v := .tuple #[.int .i64 0, .int .i64 er]) (by simp [results, Tryz.results14, go_sem]) rfl ⟨rfl, ?_⟩
  rw [hX]
  exact H.out.trans (H2.out.mono (by omega))
set_option maxHeartbeats 3200000 in
set_option maxRecDepth 100000 in
theorem rrounds_no {w : World} {l : Lg} {s : Sp} (hw : l.wf) (hz : spErr l s ≠ 0) :
    Calls Tryz.prog 15 #[.agg (spC l s)] w fun e w' => e = .returned (.tuple #[.int .i64 0, .int .i64 (spErr l s)]) ∧ Below w.heap.size w w' := by
  have cC := fun W => wcheckR_any (w := W) (l := l) (s := s) hw
  obtain ⟨er, her⟩ : ∃ er, spErr l s = er := ⟨_, rfl⟩
  rw [her] at cC hz ⊢
  have ne : ¬ er = 0 := hz
  unfold spC at cC ⊢
  obtain ⟨X, hX⟩ : ∃ X, w.heap.size = X := ⟨_, rfl⟩
  obtain ⟨V1, hV1⟩ : ∃ V, w.alloc (.cells #[.int .i64 l.base, .int .i64 l.term, .int .i64 l.mtu, .int .i64 l.subs, .int .i32 l.ini, .int .i32 l.ses, .int .i32 l.str, .slice s.wa s.wn s.wc, .int .i64 s.tries, .int .i64 s.polls, .int .i64 s.most, .int .i64 s.cleans, .int .i64 s.timeout, .int .i64 s.looks] 26) = V := ⟨_, rfl⟩
  obtain ⟨b1, r1, s1⟩ := at_new hV1
  rw [hX] at r1 s1 b1
  obtain ⟨c0, c1, c2, c3, c4, c5, c6, c7, c8, c9, c10, c11, c12, c13⟩ := blk14 r1
  have H := Lib.hid b1
  clear b1 r1
  go_enter Tryz.func15, Tryz.ntmps15
  go_wp2_with (go_at_call 13; refine (cC _).mono ?_; rintro e w2 ⟨rfl, hB⟩; have H2 := Lib.hid hB; clear hB)
  refine bodyPost_ret (v := .tuple #[.int .i64 0, .int .i64 er]) (by simp [results, Tryz.results15, go_sem]) rfl ⟨rfl, ?_⟩
  rw [hX]
  exact H.out.trans (H2.out.mono (by omega))
set_option maxHeartbeats 3200000 in
set_option maxRecDepth 100000 in
theorem brounds_ok {w : World} {l : Lg} {s : Sp} {ls : List Nat} (hl : l.ok) (hz : spErr l s = 0) (hwr : WrsC w l s) (hn : s.wn ≤ 8) (ht : 0 ≤ s.timeout ∧ s.timeout ≤ 1099511627776) (hls : LensAt w s ls) (hm : ∀ m ∈ ls, m ≤ 1000) :
    Calls Tryz.prog 14 #[.agg (spC l s)] w fun e w' => e = .returned (.tuple #[.int .i64 (bndS l s ls), .int .i64 0]) ∧ Below w.heap.size w w' := by
  have hb := hl.bounds
  have hle := actsS_le ls
  rw [hls.1] at hle
  obtain ⟨A, hA⟩ : ∃ A, actsS ls = A := ⟨_, rfl⟩
  obtain ⟨E, hE⟩ : ∃ E, eachS l s = E := ⟨_, rfl⟩
  have hE2 : 0 ≤ E ∧ E ≤ 1099511650000 := by rw [← hE]; unfold eachS; omega
  have hN : ((A : Int) + (s.wn : Int) + 2) * E ≤ 1000 * 1099511650000 ∧ 0 ≤ ((A : Int) + (s.wn : Int) + 2) * E := by
    rw [hA] at hle
    have h1 : 0 ≤ ((A : Int) + (s.wn : Int) + 2) ∧ ((A : Int) + (s.wn : Int) + 2) ≤ 1000 := by omega
    exact ⟨Int.mul_le_mul h1.2 hE2.2 hE2.1 (by decide), Int.mul_nonneg h1.1 hE2.1⟩
  obtain ⟨N, hNN⟩ : ∃ N, ((A : Int) + (s.wn : Int) + 2) * E = N := ⟨_, rfl⟩
  unfold bndS
  rw [hA, hE, hNN]
  rw [hNN] at hN
  have cW := fun V (hV : Below w.heap.size w V) => wnew_ok (w := V) hl hz (show WrsC V l s from fun j hj => by
    obtain ⟨gb, go, la, m, lc, h1, h2, h3, h4⟩ := hwr j hj
    exact ⟨gb, go, la, m, lc, h1, Nat.lt_of_lt_of_le h2 hV.size, (hV.cell (p := ⟨gb, go + j, none⟩) h2).trans h3, fun V' hV' => h4 V' (hV.trans (hV'.mono hV.size))⟩) hn
  have cA := fun V (hV : Below w.heap.size w V) => acts_any (w := V) (l := l) (s := s) (ls := ls) ⟨hls.1, fun j m hj => by
    obtain ⟨gb, go, la, lc, h1, h2, h3⟩ := hls.2 j m hj
    exact ⟨gb, go, la, lc, h1, Nat.lt_of_lt_of_le h2 hV.size, (hV.cell (p := ⟨gb, go + j, none⟩) h2).trans h3⟩⟩ (by omega) hm
  rw [hA] at cA
  unfold spC at cW cA ⊢
  obtain ⟨X, hX⟩ : ∃ X, w.heap.size = X := ⟨_, rfl⟩
  obtain ⟨V1, hV1⟩ : ∃ V, w.alloc (.cells #[.int .i64 l.base, .int .i64 l.term, .int .i64 l.mtu, .int .i64 l.subs, .int .i32 l.ini, .int .i32 l.ses, .int .i32 l.str, .slice s.wa s.wn s.wc, .int .i64 s.tries, .int .i64 s.polls, .int .i64 s.most, .int .i64 s.cleans, .int .i64 s.timeout, .int .i64 s.looks] 26) = V := ⟨_, rfl⟩
  obtain ⟨b1, r1, s1⟩ := at_new hV1
  rw [hX] at r1 s1 b1 cW cA
  obtain ⟨c0, c1, c2, c3, c4, c5, c6, c7, c8, c9, c10, c11, c12, c13⟩ := blk14 r1
  have H := Lib.hid (And.intro b1 (And.intro r1 (And.intro cW cA)))
  have k1 : IntKind.i64.wrap (16 * l.subs) = 16 * l.subs := wrap_small _ (by omega) (by omega)
  have k2 : IntKind.i64.wrap (2 * l.term) = 2 * l.term := wrap_small _ (by omega) (by omega)
  have k3 : IntKind.i64.wrap (16 * l.subs + 2 * l.term) = 16 * l.subs + 2 * l.term := wrap_small _ (by omega) (by omega)
  have k4 : IntKind.i64.wrap (16 * l.subs + 2 * l.term + 400) = 16 * l.subs + 2 * l.term + 400 := wrap_small _ (by omega) (by omega)
  have k5 : IntKind.i64.wrap (s.timeout + (16 * l.subs + 2 * l.term + 400)) = E := by rw [wrap_small _ (by omega) (by omega), ← hE]; rfl
  rw [hA] at hle
  have k6 : IntKind.i64.wrap ((A : Int) + (s.wn : Int)) = (A : Int) + (s.wn : Int) := wrap_small _ (by omega) (by omega)
  have k7 : IntKind.i64.wrap ((A : Int) + (s.wn : Int) + 2) = (A : Int) + (s.wn : Int) + 2 := wrap_small _ (by omega) (by omega)
  have k8 : IntKind.i64.wrap N = N := wrap_small _ (by omega) (by omega)
  clear b1 r1 cW cA hwr hls hm hz hle
  go_enter Tryz.func14, Tryz.ntmps14
  go_wp2_with (go_at_call 8; refine (H.out.2.2.1 _ H.out.1).mono ?_; rintro e w2 ⟨F, rfl, hB⟩; have b2 : Below X w w2 := H.out.1.trans (hB.mono (by omega)); have x2 := (hB.block X (by omega)).trans H.out.2.1; obtain ⟨d0, d1, d2, d3, d4, d5, d6, d7, d8, d9, d10, d11, d12, d13⟩ := blk14 x2; have H2 := Lib.hid (And.intro b2 (And.intro x2 (show X < w2.heap.size from Nat.lt_of_lt_of_le (by omega) hB.size))); clear hB b2 x2)
  clear c0 c1 c2 c3 c4 c5 c6 c7 c8 c9 c10 c11 c12 c13 k1 k2 k3 k4 k5
  by_cases h65 : N ≤ 65536
  · skip
    go_region_with (go_at_call 41
                    refine (H.out.2.2.2 _ H2.out.1.drew).mono ?_
                    rintro e w3 ⟨rfl, hB⟩
                    have b3 : Below w2.heap.size w2 w3 := (Below.refl w2.heap.size w2).drew.trans hB
                    obtain ⟨e0, e1, e2, e3, e4, e5, e6, e7, e8, e9, e10, e11, e12, e13⟩ := blk14 ((b3.block X H2.out.2.2).trans H2.out.2.1)
                    have H3 := Lib.hid (H2.out.1.trans (b3.mono (by have := H2.out.2.2; omega)))
                    clear hB b3)
    all_goals go_wp2
    all_goals refine bodyPost_ret (v := .tuple #[.int .i64 N, .int .i64 0]) (by simp [results, Tryz.results14, go_sem]) rfl ⟨by rw [show min N 65536 = N by omega], by first | exact H3.out | (rw [hX]; exact H3.out)⟩
  · skip
    go_region_with (go_at_call 41
                    refine (H.out.2.2.2 _ H2.out.1.drew).mono ?_
                    rintro e w3 ⟨rfl, hB⟩
                    have b3 : Below w2.heap.size w2 w3 := (Below.refl w2.heap.size w2).drew.trans hB
                    obtain ⟨e0, e1, e2, e3, e4, e5, e6, e7, e8, e9, e10, e11, e12, e13⟩ := blk14 ((b3.block X H2.out.2.2).trans H2.out.2.1)
                    have H3 := Lib.hid (H2.out.1.trans (b3.mono (by have := H2.out.2.2; omega)))
                    clear hB b3)
    all_goals go_wp2
    all_goals refine bodyPost_ret (v := .tuple #[.int .i64 65536, .int .i64 0]) (by simp [results, Tryz.results14, go_sem]) rfl ⟨by rw [show min N 65536 = 65536 by omega], by first | exact H3.out | (rw [hX]; exact H3.out)⟩
end Go.Proofs.YtpbhfckefmboaaaGreatDoor.Ba
namespace Go.Proofs.YtpbhfckefmboaaaGreatDoor.Ba
open Go Go.RowKit Go.Lib Go.Base
set_option maxHeartbeats 3200000 in
set_option maxRecDepth 100000 in
theorem rrounds_ok {w : World} {l : Lg} {s : Sp} {ls : List Nat} (hl : l.ok) (hz : spErr l s = 0) (hn : s.wn ≤ 8) (ht : 0 ≤ s.timeout ∧ s.timeout ≤ 1099511627776) (hls : LensAt w s ls) (hm : ∀ m ∈ ls, m ≤ 1000) :
    Calls Tryz.prog 15 #[.agg (spC l s)] w fun e w' => e = .returned (.tuple #[.int .i64 (bndS l s ls), .int .i64 0]) ∧ Below w.heap.size w w' := by
  have hb := hl.bounds
  have hle := actsS_le ls
  rw [hls.1] at hle
  obtain ⟨A, hA⟩ : ∃ A, actsS ls = A := ⟨_, rfl⟩
  obtain ⟨E, hE⟩ : ∃ E, eachS l s = E := ⟨_, rfl⟩
  have hE2 : 0 ≤ E ∧ E ≤ 1099511650000 := by rw [← hE]; unfold eachS; omega
  have hN : ((A : Int) + (s.wn : Int) + 2) * E ≤ 1000 * 1099511650000 ∧ 0 ≤ ((A : Int) + (s.wn : Int) + 2) * E := by
    rw [hA] at hle
    have h1 : 0 ≤ ((A : Int) + (s.wn : Int) + 2) ∧ ((A : Int) + (s.wn : Int) + 2) ≤ 1000 := by omega
    exact ⟨Int.mul_le_mul h1.2 hE2.2 hE2.1 (by decide), Int.mul_nonneg h1.1 hE2.1⟩
  obtain ⟨N, hNN⟩ : ∃ N, ((A : Int) + (s.wn : Int) + 2) * E = N := ⟨_, rfl⟩
  unfold bndS
  rw [hA, hE, hNN]
  rw [hNN] at hN
  have cC := fun W => wcheckR_any (w := W) (l := l) (s := s) hl.wf
  rw [hz] at cC
  unfold spC at cC ⊢
  obtain ⟨X, hX⟩ : ∃ X, w.heap.size = X := ⟨_, rfl⟩
  obtain ⟨wa, hwa0⟩ : ∃ wa, s.wa = wa := ⟨_, rfl⟩
  rw [hwa0] at cC ⊢
  obtain ⟨V1, hV1⟩ : ∃ V, w.alloc (.cells #[.int .i64 l.base, .int .i64 l.term, .int .i64 l.mtu, .int .i64 l.subs, .int .i32 l.ini, .int .i32 l.ses, .int .i32 l.str, .slice wa s.wn s.wc, .int .i64 s.tries, .int .i64 s.polls, .int .i64 s.most, .int .i64 s.cleans, .int .i64 s.timeout, .int .i64 s.looks] 26) = V := ⟨_, rfl⟩
  obtain ⟨b1, r1, s1⟩ := at_new hV1
  rw [hX] at r1 s1 b1
  obtain ⟨c0, c1, c2, c3, c4, c5, c6, c7, c8, c9, c10, c11, c12, c13⟩ := blk14 r1
  have k1 : IntKind.i64.wrap (16 * l.subs) = 16 * l.subs := wrap_small _ (by omega) (by omega)
  have k2 : IntKind.i64.wrap (2 * l.term) = 2 * l.term := wrap_small _ (by omega) (by omega)
  have k3 : IntKind.i64.wrap (s.timeout + 16 * l.subs) = s.timeout + 16 * l.subs := wrap_small _ (by omega) (by omega)
  have k4 : IntKind.i64.wrap (s.timeout + 16 * l.subs + 2 * l.term) = s.timeout + 16 * l.subs + 2 * l.term := wrap_small _ (by omega) (by omega)
  have k5 : IntKind.i64.wrap (s.timeout + 16 * l.subs + 2 * l.term + 400) = E := by rw [wrap_small _ (by omega) (by omega), ← hE]; unfold eachS; omega
  have k0 : IntKind.i64.wrap ((s.wn : Int) + 2) = (s.wn : Int) + 2 := wrap_small _ (by omega) (by omega)
  have k8 : IntKind.i64.wrap N = N := wrap_small _ (by omega) (by omega)
  have HA := Lib.hid hA
  have HN := Lib.hid hNN
  have H := Lib.hid (And.intro b1 (And.intro hls (And.intro hm (And.intro hwa0 r1))))
  clear b1 r1 hls hm hwa0 hle hA hNN hz
  go_enter Tryz.func15, Tryz.ntmps15
  go_wp2_with (go_at_call 13; refine (cC _).mono ?_; rintro e w2 ⟨rfl, hB⟩; have x2 := (hB.block X (by omega)).trans H.out.2.2.2.2; obtain ⟨d0, d1, d2, d3, d4, d5, d6, d7, d8, d9, d10, d11, d12, d13⟩ := blk14 x2; have H2 := Lib.hid (And.intro (H.out.1.trans (hB.mono (by omega))) (And.intro x2 (show X < w2.heap.size from Nat.lt_of_lt_of_le (by omega) hB.size))); clear hB x2)
  go_loopw [5, 21] (fun nn ii wr => ∃ i : Nat, ii = .int .i64 (i : Int) ∧ i ≤ s.wn ∧ nn = .int .i64 ((s.wn : Int) + 2 + (actsS (ls.take i) : Int)) ∧ wr = w2) (fun _ ii _ => ((200 : Int) - intOf ii).toNat)
  case atStart => exact ⟨0, rfl, Nat.zero_le _, by simp [actsS], rfl⟩
  case round =>
    obtain ⟨i, rfl, hi, rfl, rfl⟩ := hrel
    by_cases hlt : i < s.wn
    · obtain ⟨m, hmi⟩ : ∃ m, ls[i]? = some m := ⟨ls[i]'(by rw [H.out.2.1.1]; exact hlt), by simp⟩
      obtain ⟨gb, go, la, lc, hwa, hgb, cj⟩ := H.out.2.1.2 i m hmi
      have hmb := H.out.2.2.1 m (List.mem_of_getElem? hmi)
      obtain rfl : wa = some ⟨gb, go, none⟩ := H.out.2.2.2.1.symm.trans hwa
      have kj : wr.cell? ⟨gb, go + i, none⟩ = some (.slice la m lc) := (H2.out.1.cell (p := ⟨gb, go + i, none⟩) (hX ▸ hgb)).trans cj
      have h0 : (0 : Int) ≤ (i : Int) := by omega
      have h1 : (i : Int) < (s.wn : Int) := by omega
      have qi : IntKind.i64.wrap ((i : Int) + 1) = (i : Int) + 1 := wrap_small _ (by omega) (by omega)
      have hsum := actsS_take ls hmi
      have hle := actsS_le (ls.take i)
      have hle2 : (ls.take i).length ≤ 100 := by rw [List.length_take]; omega
      obtain ⟨B, hB⟩ : ∃ B, actsS (ls.take i) = B := ⟨_, rfl⟩
      rw [hB] at hsum hle
      rw [hB]
      have hB2 : B ≤ 6400 := by omega
      clear hwa cj hgb hle hle2
      by_cases h64 : (m : Int) ≤ 64
      · have q1 : IntKind.i64.wrap ((s.wn : Int) + 2 + (B : Int) + (m : Int)) = (s.wn : Int) + 2 + (B : Int) + (m : Int) := wrap_small _ (by omega) (by omega)
        go_wp2_with fail
        go_roundw
        case measure => simp [intOf]; omega
        case rel => exact ⟨i + 1, by simp, by omega, by rw [hsum]; simp; omega, by first | trivial | rfl⟩
      · have q1 : IntKind.i64.wrap ((s.wn : Int) + 2 + (B : Int) + 64) = (s.wn : Int) + 2 + (B : Int) + 64 := wrap_small _ (by omega) (by omega)
        go_wp2_with fail
        go_roundw
        case measure => simp [intOf]; omega
        case rel => exact ⟨i + 1, by simp, by omega, by rw [hsum]; simp; omega, by first | trivial | rfl⟩
    · have hin : i = s.wn := by omega
      subst hin
      have hall : ls.take s.wn = ls := by rw [← H.out.2.1.1, List.take_length]
      rw [hall, HA.out]
      have hP : ((s.wn : Int) + 2 + (A : Int)) * E = N := by rw [← HN.out]; congr 1; omega
      clear hi hlt hall
      by_cases h65 : N ≤ 65536
      · go_wp2
        exact bodyPost_ret (v := .tuple #[.int .i64 N, .int .i64 0]) (by simp [results, Tryz.results15, go_sem]) rfl ⟨by rw [show min N 65536 = N by omega], by first | exact H2.out.1 | (rw [hX]; exact H2.out.1)⟩
      · go_wp2
        exact bodyPost_ret (v := .tuple #[.int .i64 65536, .int .i64 0]) (by simp [results, Tryz.results15, go_sem]) rfl ⟨by rw [show min N 65536 = 65536 by omega], by first | exact H2.out.1 | (rw [hX]; exact H2.out.1)⟩
end Go.Proofs.YtpbhfckefmboaaaGreatDoor.Ba
