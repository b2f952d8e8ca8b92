/- MbA, MbB, MbC: in one text. -/
import Derived.Test.YtpbhfckefmboaaaGreatDoorGp01
import Derived.Laws.LoneSync
set_option linter.unusedVariables false
set_option linter.unusedSimpArgs false
set_option linter.unusedSectionVars false
namespace Go.Proofs.YtpbhfckefmboaaaGreatDoor.Ba
open Go Go.RowKit Go.Lib Go.Base
theorem aload {b o : Nat} {v : Int} (w : World) (h : w.cell? ⟨b, o, none⟩ = some (.int .u64 v)) :
    Calls Tryz.prog 211 #[.pointer (some ⟨b, o, none⟩)] w fun e w' => e = .returned (.int .u64 v) ∧ w' = w := by
  have hl := run_call_load (P := Tryz.prog) Tryz.func232 (by kernel_rfl) (by kernel_rfl) (by kernel_rfl) .u64 (by kernel_rfl) h
  go_enter Tryz.func211, Tryz.ntmps211
  go_wp2
  go_ret
  exact ⟨rfl, rfl⟩
theorem acas_hit {b o : Nat} {v u : Int} (w : World) (h : w.cell? ⟨b, o, none⟩ = some (.int .u64 v)) (hz : w.frozen? ⟨b, o, none⟩ = false) :
    Calls Tryz.prog 231 #[.pointer (some ⟨b, o, none⟩), .int .u64 v, .int .u64 u] w fun e w' => e = .returned (.bool true) ∧ w' = w.setCell ⟨b, o, none⟩ (.int .u64 u) := by
  have hl := run_call_cas_hit (P := Tryz.prog) Tryz.func238 (by kernel_rfl) (by kernel_rfl) (by kernel_rfl) .u64 (by kernel_rfl) (y := u) h hz
  go_enter Tryz.func231, Tryz.ntmps231
  go_wp2
  go_ret
  exact ⟨rfl, rfl⟩
/-- a field -/
def fldV (b o : Nat) (by_ mask : Int) : Value := .agg #[.pointer (some ⟨b, o, none⟩), .int .u64 by_, .int .u64 mask]
/-- a word with a number stored into a field -/
def fldPut (was by_ mask v : Int) : Int := bits .or .u64 (bits .andNot .u64 was (IntKind.u64.wrap (mask * 2 ^ by_.toNat))) (IntKind.u64.wrap (bits .and .u64 v mask * 2 ^ by_.toNat))
/-- what a field has -/
def fldGet (was by_ mask : Int) : Int := bits .and .u64 (was / 2 ^ by_.toNat) mask
/-- one cell was set, and something new may stand -/
abbrev PutB (w w' : World) (b o : Nat) (v : Value) : Prop := Below w.heap.size (w.setCell ⟨b, o, none⟩ v) w'
theorem set_size (w : World) (a : Addr) (v : Value) : (w.setCell a v).heap.size = w.heap.size := by
  show (w.heap.modify _ _).size = _
  rw [Array.size_modify]
theorem PutB.of {w V : World} {b o : Nat} {v : Value} (h : Below w.heap.size w V) (hb : b < w.heap.size) : PutB w (V.setCell ⟨b, o, none⟩ v) b o v := by
  refine ⟨h.os, h.tape, h.output, ?_, fun k hk => ?_⟩
  · rw [set_size, set_size]; exact h.size
  · have e := h.block k hk
    show (V.heap.modify b _)[k]? = (w.heap.modify b _)[k]?
    have hk2 : k < V.heap.size := Nat.lt_of_lt_of_le hk h.size
    rw [Array.getElem?_eq_getElem (by rw [Array.size_modify]; exact hk2), Array.getElem?_eq_getElem (by rw [Array.size_modify]; exact hk), Array.getElem_modify, Array.getElem_modify]
    have e2 : V.heap[k] = w.heap[k] := by
      rw [Array.getElem?_eq_getElem hk2, Array.getElem?_eq_getElem hk] at e
      exact Option.some.inj e
    rw [e2]
theorem PutB.pre {w V w2 : World} {b o : Nat} {v : Value} (h : Below w.heap.size w V) (hb : b < w.heap.size) (h2 : PutB V w2 b o v) : PutB w w2 b o v :=
  (PutB.of h hb).trans (Below.mono h2 h.size)
theorem swap_hit {b o : Nat} {by_ mask v u : Int} (w : World) (h : w.cell? ⟨b, o, none⟩ = some (.int .u64 v)) (hz : w.frozen? ⟨b, o, none⟩ = false) (hb0 : 0 ≤ by_) (hb1 : by_ ≤ 64) :
    Calls Tryz.prog 210 #[fldV b o by_ mask, .int .u64 v, .int .u64 u] w fun e w' => e = .returned (.bool true) ∧ PutB w w' b o (.int .u64 (fldPut v by_ mask u)) := by
  have c := fun W u h hz => acas_hit (u := u) (v := v) (b := b) (o := o) W h hz
  obtain ⟨X, hX⟩ : ∃ X, w.heap.size = X := ⟨_, rfl⟩
  have hb : b < X := hX ▸ World.block_lt_of_cell? w _ h
  obtain ⟨V, hV⟩ : ∃ V, w.alloc (.cells #[.pointer (some ⟨b, o, none⟩), .int .u64 by_, .int .u64 mask] 270) = V := ⟨_, rfl⟩
  have bV : Below w.heap.size w V := by rw [← hV]; exact (Below.refl _ _).alloc (Nat.le_refl _) _
  have hbV : V.heap[X]? = some (.cells #[.pointer (some ⟨b, o, none⟩), .int .u64 by_, .int .u64 mask] 270) := by rw [← hV, ← hX]; exact heap_new _ _
  have c0 : V.cell? ⟨X, 0, none⟩ = some (.pointer (some ⟨b, o, none⟩)) := by simp [World.cell?, hbV]
  have c1 : V.cell? ⟨X, 1, none⟩ = some (.int .u64 by_) := by simp [World.cell?, hbV]
  have c2 : V.cell? ⟨X, 2, none⟩ = some (.int .u64 mask) := by simp [World.cell?, hbV]
  have h2 : V.cell? ⟨b, o, none⟩ = some (.int .u64 v) := (bV.cell (hX ▸ hb)).trans h
  have hz2 : V.frozen? ⟨b, o, none⟩ = false := (bV.frozen (hX ▸ hb)).trans hz
  have hR := Lib.hid (And.intro (PutB.of (o := o) (v := .int .u64 (fldPut v by_ mask u)) bV (hX ▸ hb)) (And.intro h2 hz2))
  unfold fldV
  clear hbV h hz bV h2 hz2
  go_enter Tryz.func210, Tryz.ntmps210
  go_wp2_with (go_at_call 231; refine (c _ _ hR.out.2.1 hR.out.2.2).mono ?_; rintro e w1 ⟨rfl, hw⟩; subst w1)
  go_ret
  exact ⟨rfl, hR.out.1⟩
set_option maxHeartbeats 1600000 in
theorem put_any {b o : Nat} {by_ mask v u : Int} (w : World) (h : w.cell? ⟨b, o, none⟩ = some (.int .u64 v)) (hz : w.frozen? ⟨b, o, none⟩ = false) (hb0 : 0 ≤ by_) (hb1 : by_ ≤ 64) :
    Calls Tryz.prog 174 #[fldV b o by_ mask, .int .u64 u] w fun e w' => e = .returned (.tuple #[]) ∧ PutB w w' b o (.int .u64 (fldPut v by_ mask u)) := by
  have c1 := fun W h => aload (v := v) (b := b) (o := o) W h
  have c2 := fun W h hz => swap_hit (by_ := by_) (mask := mask) (v := v) (u := u) (b := b) (o := o) W h hz hb0 hb1
  obtain ⟨X, hX⟩ : ∃ X, w.heap.size = X := ⟨_, rfl⟩
  have hb : b < X := hX ▸ World.block_lt_of_cell? w _ h
  obtain ⟨V, hV⟩ : ∃ V, w.alloc (.cells #[.pointer (some ⟨b, o, none⟩), .int .u64 by_, .int .u64 mask] 270) = V := ⟨_, rfl⟩
  have bV : Below w.heap.size w V := by rw [← hV]; exact (Below.refl _ _).alloc (Nat.le_refl _) _
  have hbV : V.heap[X]? = some (.cells #[.pointer (some ⟨b, o, none⟩), .int .u64 by_, .int .u64 mask] 270) := by rw [← hV, ← hX]; exact heap_new _ _
  have k0 : V.cell? ⟨X, 0, none⟩ = some (.pointer (some ⟨b, o, none⟩)) := by simp [World.cell?, hbV]
  have k1 : V.cell? ⟨X, 1, none⟩ = some (.int .u64 by_) := by simp [World.cell?, hbV]
  have k2 : V.cell? ⟨X, 2, none⟩ = some (.int .u64 mask) := by simp [World.cell?, hbV]
  have h2 : V.cell? ⟨b, o, none⟩ = some (.int .u64 v) := (bV.cell (hX ▸ hb)).trans h
  have hz2 : V.frozen? ⟨b, o, none⟩ = false := (bV.frozen (hX ▸ hb)).trans hz
  have hR := Lib.hid (And.intro bV (And.intro h2 hz2))
  unfold fldV at c2 ⊢
  clear hbV h hz bV h2 hz2
  go_enter Tryz.func174, Tryz.ntmps174
  go_wp2
  refine wp_loop_rounds 1 ?_
  rw [rounds_succ]
  go_wp2_with (fail)
  go_region_with (first
    | (go_at_call 211; refine (c1 _ (((Below.drew (Below.refl _ _)).cell (by rw [← hX] at hb; exact Nat.lt_of_lt_of_le hb hR.out.1.size)).trans hR.out.2.1)).mono ?_; rintro e w1 ⟨rfl, hw⟩; subst w1)
    | (go_at_call 210; refine (c2 _ (((Below.drew (Below.refl _ _)).cell (by rw [← hX] at hb; exact Nat.lt_of_lt_of_le hb hR.out.1.size)).trans hR.out.2.1) (((Below.drew (Below.refl _ _)).frozen (by rw [← hX] at hb; exact Nat.lt_of_lt_of_le hb hR.out.1.size)).trans hR.out.2.2)).mono ?_; rintro e w2 ⟨rfl, hP⟩; have HP := Lib.hid (PutB.pre (hR.out.1.trans (Below.drew (Below.refl _ _) : Below w.heap.size V V.drew)) (hX ▸ hb) hP); clear hP))
  all_goals go_wp2
  all_goals go_end0
  all_goals exact ⟨rfl, HP.out⟩
set_option maxHeartbeats 1600000 in
theorem get_any {b o : Nat} {by_ mask v : Int} (w : World) (h : w.cell? ⟨b, o, none⟩ = some (.int .u64 v)) (hb0 : 0 ≤ by_) (hb1 : by_ ≤ 64) :
    Calls Tryz.prog 175 #[fldV b o by_ mask] w fun e w' => e = .returned (.int .u64 (fldGet v by_ mask)) ∧ Below w.heap.size w w' := by
  have c1 := fun W h => aload (v := v) (b := b) (o := o) W h
  obtain ⟨X, hX⟩ : ∃ X, w.heap.size = X := ⟨_, rfl⟩
  have hb : b < X := hX ▸ World.block_lt_of_cell? w _ h
  obtain ⟨V, hV⟩ : ∃ V, w.alloc (.cells #[.pointer (some ⟨b, o, none⟩), .int .u64 by_, .int .u64 mask] 270) = V := ⟨_, rfl⟩
  have bV : Below w.heap.size w V := by rw [← hV]; exact (Below.refl _ _).alloc (Nat.le_refl _) _
  have hbV : V.heap[X]? = some (.cells #[.pointer (some ⟨b, o, none⟩), .int .u64 by_, .int .u64 mask] 270) := by rw [← hV, ← hX]; exact heap_new _ _
  have k0 : V.cell? ⟨X, 0, none⟩ = some (.pointer (some ⟨b, o, none⟩)) := by simp [World.cell?, hbV]
  have k1 : V.cell? ⟨X, 1, none⟩ = some (.int .u64 by_) := by simp [World.cell?, hbV]
  have k2 : V.cell? ⟨X, 2, none⟩ = some (.int .u64 mask) := by simp [World.cell?, hbV]
  have h2 : V.cell? ⟨b, o, none⟩ = some (.int .u64 v) := (bV.cell (hX ▸ hb)).trans h
  have hR := Lib.hid (And.intro bV h2)
  unfold fldV
  clear hbV h bV h2
  go_enter Tryz.func175, Tryz.ntmps175
  go_wp2
  go_region_with (go_at_call 211; refine (c1 _ (((Below.drew (Below.refl _ _)).cell (by rw [← hX] at hb; exact Nat.lt_of_lt_of_le hb hR.out.1.size)).trans hR.out.2)).mono ?_; rintro e w1 ⟨rfl, hw⟩; subst w1)
  all_goals go_wp2
  all_goals go_ret
  all_goals exact ⟨rfl, (hR.out.1).trans (Below.drew (Below.refl _ _))⟩
/-- a buffer: its words -/
structure Buf (w : World) (P Wb n : Nat) : Prop where
  p : w.cell? ⟨P, 0, none⟩ = some (.slice (some ⟨Wb, 0, none⟩) n n)
  r : ∀ j, j < n → (∃ v, w.cell? ⟨Wb, j, none⟩ = some (.int .u64 v) ∧ 0 ≤ v ∧ v < 18446744073709551616) ∧ w.frozen? ⟨Wb, j, none⟩ = false
def maskOf (n : Int) : Int := if n < 8 then IntKind.u64.wrap (IntKind.u64.wrap (2 ^ (8 * n).toNat) - 1) else 18446744073709551615
theorem ar_i {i : Nat} (h : i ≤ 1000000) : wrap64 (i : Int) = (i : Int) ∧ IntKind.i64.wrap (i : Int) = (i : Int) ∧ (0 : Int) ≤ (i : Int) := by
  refine ⟨?_, ?_, ?_⟩
  · simp only [wrap64]; omega
  · rw [IntKind.wrap_i64]; omega
  · omega
theorem mat_any {P Wb n : Nat} {at_ k : Int} (w : World) (h : Buf w P Wb n) (h0 : 0 ≤ at_) (h1 : at_ / 8 < (n : Int)) (h2 : at_ ≤ 1000000) (hk : 0 ≤ k) (hk2 : k ≤ 8) :
    Calls Tryz.prog 173 #[.pointer (some ⟨P, 0, none⟩), .int .i64 at_, .int .i64 k] w fun e w' => e = .returned (fldV Wb (at_ / 8).toNat (8 * (at_ % 8)) (maskOf k)) ∧ Below w.heap.size w w' := by
  have hp := h.p
  have q1 : at_.tdiv 8 = at_ / 8 := Int.tdiv_eq_ediv_of_nonneg h0
  have q2 : at_.tmod 8 = at_ % 8 := Int.tmod_eq_emod_of_nonneg h0
  obtain ⟨i, hi⟩ : ∃ i : Nat, at_ / 8 = i := ⟨(at_ / 8).toNat, by omega⟩
  obtain ⟨r, hr⟩ : ∃ r, at_ % 8 = r := ⟨_, rfl⟩
  have hr0 : 0 ≤ r ∧ r < 8 := by omega
  have hi9 : i ≤ 1000000 := by omega
  rw [hi] at q1 h1 ⊢
  rw [hr] at q2 ⊢
  clear hi hr
  obtain ⟨X, hX⟩ : ∃ X, w.heap.size = X := ⟨_, rfl⟩
  have hP : P < X := hX ▸ World.block_lt_of_cell? w _ hp
  obtain ⟨e1, e2, e3⟩ := ar_i (i := i) hi9
  have hz : ∀ C : Array Value, (w.alloc (.cells C 270)).heap[X]? = some (.cells C 270) := fun C => by rw [← hX]; exact heap_new _ _
  clear h
  unfold fldV maskOf
  by_cases hk8 : k < 8
  all_goals
    go_enter Tryz.func173, Tryz.ntmps173
    go_wp2
    refine bodyPost_ret (by simp [results, Tryz.results173, go_sem, World.cell?, hz]) rfl ⟨rfl, ?_⟩
    rw [← hX]
    exact (Below.refl _ _).alloc (Nat.le_refl _) _
end Go.Proofs.YtpbhfckefmboaaaGreatDoor.Ba
namespace Go.Proofs.YtpbhfckefmboaaaGreatDoor.Ba
open Go Go.RowKit Go.Lib Go.Base
/-- an access as a value -/
def accM (k at_ n v u : Int) (ba : Option Addr) (bn bc : Nat) : Value := .agg #[.int .i64 k, .int .i64 at_, .int .i64 n, .int .u64 v, .int .u64 u, .slice ba bn bc]
/-- has it a right number of bytes? -/
def sizedM (k n : Int) (bn : Nat) : Bool := if k = 1 ∨ k = 2 ∨ k = 4 then decide (n = 4 ∨ n = 8) else if k = 3 then decide (n = 8) else if k = 5 then decide (0 ≤ n ∧ n ≤ 8) else if k = 6 then decide (n = bn ∧ n ≤ 8) else false
theorem blk6 {w : World} {b : Nat} {t : TypeId} {v0 v1 v2 v3 v4 v5 : Value} (h : w.heap[b]? = some (.cells #[v0, v1, v2, v3, v4, v5] t (0, 0))) : w.cell? ⟨b, 0, none⟩ = some v0 ∧ w.cell? ⟨b, 1, none⟩ = some v1 ∧ w.cell? ⟨b, 2, none⟩ = some v2 ∧ w.cell? ⟨b, 3, none⟩ = some v3 ∧ w.cell? ⟨b, 4, none⟩ = some v4 ∧ w.cell? ⟨b, 5, none⟩ = some v5 := by
  refine ⟨?_, ?_, ?_, ?_, ?_, ?_⟩ <;> simp [World.cell?, h]
theorem eq_cases (k m : Int) : ((k == m) = true ∧ k = m) ∨ ((k == m) = false ∧ ¬ k = m) := by
  by_cases h : k = m
  · exact .inl ⟨by simp [h], h⟩
  · exact .inr ⟨by simp [h], h⟩
set_option maxHeartbeats 3200000 in
theorem sized_any (k at_ n v u : Int) (ba : Option Addr) (bn bc : Nat) (hbn : bn ≤ 1000) (w : World) :
    Calls Tryz.prog 208 #[accM k at_ n v u ba bn bc] w fun e w' => e = .returned (.bool (sizedM k n bn)) ∧ Below w.heap.size w w' := by
  unfold accM
  have h7 : (k = 1 ∨ k = 2 ∨ k = 4) ∨ k = 3 ∨ k = 5 ∨ k = 6 ∨ (¬ k = 1 ∧ ¬ k = 2 ∧ ¬ k = 4 ∧ ¬ k = 3 ∧ ¬ k = 5 ∧ ¬ k = 6) := by omega
  rcases h7 with h | rfl | rfl | rfl | ⟨n1, n2, n4, n3, n5, n6⟩
  · rcases eq_cases n 4 with ⟨a1, h1⟩ | ⟨a1, h1⟩ <;> rcases eq_cases n 8 with ⟨a2, h2⟩ | ⟨a2, h2⟩ <;> rcases h with rfl | rfl | rfl
    all_goals try (exfalso; omega)
    all_goals
      go_enter Tryz.func208, Tryz.ntmps208
      go_wp2
      go_ret
      exact ⟨by simp [sizedM, h1, h2], (Below.refl _ _).alloc (Nat.le_refl _) _⟩
  · rcases eq_cases n 8 with ⟨a2, h2⟩ | ⟨a2, h2⟩
    all_goals
      go_enter Tryz.func208, Tryz.ntmps208
      go_wp2
      go_ret
      exact ⟨by simp [sizedM, h2], (Below.refl _ _).alloc (Nat.le_refl _) _⟩
  · by_cases h1 : 0 ≤ n <;> by_cases h2 : n ≤ 8
    all_goals try (exfalso; omega)
    all_goals
      go_enter Tryz.func208, Tryz.ntmps208
      go_wp2
      go_ret
      exact ⟨by simp [sizedM, h1, h2], (Below.refl _ _).alloc (Nat.le_refl _) _⟩
  · rcases eq_cases n (bn : Int) with ⟨a1, h1⟩ | ⟨a1, h1⟩ <;> by_cases h2 : n ≤ 8
    all_goals
      go_enter Tryz.func208, Tryz.ntmps208
      go_wp2
      go_ret
      exact ⟨by simp [sizedM, h1, h2], (Below.refl _ _).alloc (Nat.le_refl _) _⟩
  · have a1 : (k == 1) = false := by simp [n1]
    have a2 : (k == 2) = false := by simp [n2]
    have a3 : (k == 3) = false := by simp [n3]
    have a4 : (k == 4) = false := by simp [n4]
    have a5 : (k == 5) = false := by simp [n5]
    have a6 : (k == 6) = false := by simp [n6]
    go_enter Tryz.func208, Tryz.ntmps208
    go_wp2
    go_ret
    exact ⟨by simp [sizedM, n1, n2, n3, n4, n5, n6], (Below.refl _ _).alloc (Nat.le_refl _) _⟩
/-- may it be? -/
def chkM (size k at_ n : Int) (bn : Nat) : Int := if sizedM k n bn = false then 1 else if at_ < 0 ∨ at_ > size ∨ n > size - at_ then 2 else if k < 5 ∧ ¬ at_ % n = 0 then 3 else 0
set_option maxHeartbeats 3200000 in
theorem check_acc (size k at_ n v u : Int) (ba : Option Addr) (bn bc : Nat) (hbn : bn ≤ 1000) (hs : 0 ≤ size ∧ size ≤ 1000000) (w : World) :
    Calls Tryz.prog 169 #[.int .i64 size, accM k at_ n v u ba bn bc] w fun e w' => e = .returned (.int .i64 (chkM size k at_ n bn)) ∧ Below w.heap.size w w' := by
  obtain ⟨X, hX⟩ : ∃ X, w.heap.size = X := ⟨_, rfl⟩
  obtain ⟨V, hV⟩ : ∃ V, w.alloc (.cells #[.int .i64 k, .int .i64 at_, .int .i64 n, .int .u64 v, .int .u64 u, .slice ba bn bc] 40) = V := ⟨_, rfl⟩
  have bV : Below w.heap.size w V := by rw [← hV]; exact (Below.refl _ _).alloc (Nat.le_refl _) _
  have hbV : V.heap[X]? = some (.cells #[.int .i64 k, .int .i64 at_, .int .i64 n, .int .u64 v, .int .u64 u, .slice ba bn bc] 40) := by rw [← hV, ← hX]; exact heap_new _ _
  have cS := fun W => sized_any k at_ n v u ba bn bc hbn W
  have hsz : ∀ W, Below V.heap.size V W → W.heap[X]? = some (.cells #[.int .i64 k, .int .i64 at_, .int .i64 n, .int .u64 v, .int .u64 u, .slice ba bn bc] 40) := fun W hW => (hW.block X (by rw [← hV, ← hX]; simp)).trans hbV
  obtain ⟨c0, c1, c2, c3, c4, c5⟩ := blk6 hbV
  have hR := Lib.hid (And.intro bV hsz)
  clear hbV bV hsz
  obtain ⟨sm, hsm⟩ : ∃ b, sizedM k n bn = b := ⟨_, rfl⟩
  rw [hsm] at cS
  have hsz : sm = true → 0 ≤ n ∧ n ≤ 1000 ∧ (k < 5 → 4 ≤ n) := by
    intro e
    subst e
    unfold sizedM at hsm
    split at hsm
    · have := of_decide_eq_true hsm; omega
    · split at hsm
      · have := of_decide_eq_true hsm; omega
      · split at hsm
        · have := of_decide_eq_true hsm; omega
        · split at hsm
          · have := of_decide_eq_true hsm; omega
          · cases hsm
  unfold accM at cS ⊢
  unfold chkM
  rw [hsm]
  clear hsm
  cases sm with
  | false =>
    go_enter Tryz.func169, Tryz.ntmps169
    go_wp2_with (go_at_call 208; refine (cS _).mono ?_; clear cS; rintro e w1 ⟨rfl, hB⟩; have HB := Lib.hid (hR.out.1.trans (hB.mono hR.out.1.size)); clear hB)
    go_ret
    exact ⟨rfl, hX ▸ HB.out⟩
  | true =>
    obtain ⟨z0, z1, z4⟩ := hsz rfl
    clear hsz
    by_cases h1 : at_ < 0
    · go_enter Tryz.func169, Tryz.ntmps169
      go_wp2_with (go_at_call 208; refine (cS _).mono ?_; clear cS; rintro e w1 ⟨rfl, hB⟩; have HB := Lib.hid (hR.out.1.trans (hB.mono hR.out.1.size)); have hz := hR.out.2 _ hB; clear hB; clear c0 c1 c2 c3 c4 c5; obtain ⟨c0, c1, c2, c3, c4, c5⟩ := blk6 hz; clear hz)
      go_wp2
      go_ret
      exact ⟨by simp [h1], hX ▸ HB.out⟩
    by_cases h2 : at_ > size
    · go_enter Tryz.func169, Tryz.ntmps169
      go_wp2_with (go_at_call 208; refine (cS _).mono ?_; clear cS; rintro e w1 ⟨rfl, hB⟩; have HB := Lib.hid (hR.out.1.trans (hB.mono hR.out.1.size)); have hz := hR.out.2 _ hB; clear hB; clear c0 c1 c2 c3 c4 c5; obtain ⟨c0, c1, c2, c3, c4, c5⟩ := blk6 hz; clear hz)
      go_wp2
      go_ret
      exact ⟨by simp [h1, h2], hX ▸ HB.out⟩
    have e1 : IntKind.i64.wrap (size - at_) = size - at_ := by rw [IntKind.wrap_i64]; omega
    by_cases h3 : n > size - at_
    · go_enter Tryz.func169, Tryz.ntmps169
      go_wp2_with (go_at_call 208; refine (cS _).mono ?_; clear cS; rintro e w1 ⟨rfl, hB⟩; have HB := Lib.hid (hR.out.1.trans (hB.mono hR.out.1.size)); have hz := hR.out.2 _ hB; clear hB; clear c0 c1 c2 c3 c4 c5; obtain ⟨c0, c1, c2, c3, c4, c5⟩ := blk6 hz; clear hz)
      go_wp2
      go_ret
      exact ⟨by simp [h1, h2, h3], hX ▸ HB.out⟩
    by_cases h4 : k < 5
    · have h5 : ¬ n = 0 := by have := z4 h4; omega
      have e2 : at_.tmod n = at_ % n := Int.tmod_eq_emod_of_nonneg (by omega)
      have e3 : IntKind.i64.wrap (at_ % n) = at_ % n := by
        have a1 := Int.emod_nonneg at_ h5
        have a2 := Int.emod_lt_of_pos at_ (show 0 < n by omega)
        rw [IntKind.wrap_i64]; omega
      by_cases h6 : at_ % n = 0
      · have e4 : (at_ % n != 0) = false := by simp [h6]
        go_enter Tryz.func169, Tryz.ntmps169
        go_wp2_with (go_at_call 208; refine (cS _).mono ?_; clear cS; rintro e w1 ⟨rfl, hB⟩; have HB := Lib.hid (hR.out.1.trans (hB.mono hR.out.1.size)); have hz := hR.out.2 _ hB; clear hB; clear c0 c1 c2 c3 c4 c5; obtain ⟨c0, c1, c2, c3, c4, c5⟩ := blk6 hz; clear hz)
        go_wp2
        go_ret
        exact ⟨by simp [h1, h2, h3, h4, h6], hX ▸ HB.out⟩
      · have e4 : (at_ % n != 0) = true := by simp [h6]
        go_enter Tryz.func169, Tryz.ntmps169
        go_wp2_with (go_at_call 208; refine (cS _).mono ?_; clear cS; rintro e w1 ⟨rfl, hB⟩; have HB := Lib.hid (hR.out.1.trans (hB.mono hR.out.1.size)); have hz := hR.out.2 _ hB; clear hB; clear c0 c1 c2 c3 c4 c5; obtain ⟨c0, c1, c2, c3, c4, c5⟩ := blk6 hz; clear hz)
        go_wp2
        go_ret
        exact ⟨by simp [h1, h2, h3, h4, h6], hX ▸ HB.out⟩
    · go_enter Tryz.func169, Tryz.ntmps169
      go_wp2_with (go_at_call 208; refine (cS _).mono ?_; clear cS; rintro e w1 ⟨rfl, hB⟩; have HB := Lib.hid (hR.out.1.trans (hB.mono hR.out.1.size)); have hz := hR.out.2 _ hB; clear hB; clear c0 c1 c2 c3 c4 c5; obtain ⟨c0, c1, c2, c3, c4, c5⟩ := blk6 hz; clear hz)
      go_wp2
      go_ret
      exact ⟨by simp [h1, h2, h3, h4], hX ▸ HB.out⟩
end Go.Proofs.YtpbhfckefmboaaaGreatDoor.Ba
namespace Go.Proofs.YtpbhfckefmboaaaGreatDoor.Ba
open Go Go.RowKit Go.Lib Go.Base
/-- a buffer, its words, how many accesses there were -/
structure Bufw (w : World) (P Wb n : Nat) (ws : Nat → Int) (c : Int) : Prop where
  p0 : w.cell? ⟨P, 0, none⟩ = some (.slice (some ⟨Wb, 0, none⟩) n n)
  p1 : w.cell? ⟨P, 1, none⟩ = some (.int .i64 c)
  f1 : w.frozen? ⟨P, 1, none⟩ = false
  r : ∀ j, j < n → w.cell? ⟨Wb, j, none⟩ = some (.int .u64 (ws j))
  f : ∀ j, j < n → w.frozen? ⟨Wb, j, none⟩ = false
  b : ∀ j, j < n → 0 ≤ ws j ∧ ws j < 18446744073709551616
  ne : P ≠ Wb
  pl : P < w.heap.size
  wl : Wb < w.heap.size
  n0 : n ≤ 20000
theorem Bufw.buf {w : World} {P Wb n : Nat} {ws : Nat → Int} {c : Int} (h : Bufw w P Wb n ws c) : Buf w P Wb n := ⟨h.p0, fun j hj => ⟨⟨_, h.r j hj, h.b j hj⟩, h.f j hj⟩⟩
theorem Bufw.below {w w' : World} {P Wb n : Nat} {ws : Nat → Int} {c : Int} (h : Bufw w P Wb n ws c) (hb : Below w.heap.size w w') : Bufw w' P Wb n ws c :=
  ⟨(hb.cell h.pl).trans h.p0, (hb.cell h.pl).trans h.p1, (hb.frozen h.pl).trans h.f1, fun j hj => (hb.cell h.wl).trans (h.r j hj), fun j hj => (hb.frozen h.wl).trans (h.f j hj), h.b, h.ne, Nat.lt_of_lt_of_le h.pl hb.size, Nat.lt_of_lt_of_le h.wl hb.size, h.n0⟩
theorem bsize_any {w : World} {P Wb n : Nat} {ws : Nat → Int} {c : Int} (h : Bufw w P Wb n ws c) :
    Calls Tryz.prog 170 #[.pointer (some ⟨P, 0, none⟩)] w fun e w' => e = .returned (.int .i64 (8 * n)) ∧ w' = w := by
  have c0 := h.p0
  have hn := h.n0
  have e1 : IntKind.i64.wrap (8 * (n : Int)) = 8 * (n : Int) := by rw [IntKind.wrap_i64]; omega
  clear h
  go_enter Tryz.func170, Tryz.ntmps170
  go_wp2
  go_ret
  exact ⟨rfl, rfl⟩
theorem add_one {w : World} {P : Nat} {c : Int} (h : w.cell? ⟨P, 1, none⟩ = some (.int .i64 c)) (hz : w.frozen? ⟨P, 1, none⟩ = false) :
    Calls Tryz.prog 171 #[.pointer (some ⟨P, 1, none⟩), .int .i64 1] w fun e w' => e = .returned (.int .i64 (wrap64 (c + 1))) ∧ w' = w.setCell ⟨P, 1, none⟩ (.int .i64 (wrap64 (c + 1))) := by
  have hl := run_call_add (P := Tryz.prog) Tryz.func209 (by kernel_rfl) (by kernel_rfl) (by kernel_rfl) .i64 (by kernel_rfl) (y := 1) (s := wrap64 (c + 1)) h hz (by simp [go_sem, wrap64, IntKind.wrap_i64])
  go_enter Tryz.func171, Tryz.ntmps171
  go_wp2
  go_ret
  exact ⟨rfl, rfl⟩
theorem bits_bd (op : BinOp) (x y : Int) : 0 ≤ bits op .u64 x y ∧ bits op .u64 x y < 18446744073709551616 := by
  unfold bits
  split <;> (rw [IntKind.wrap_u64]; omega)
theorem fldPut_bd (a b c d : Int) : 0 ≤ fldPut a b c d ∧ fldPut a b c d < 18446744073709551616 := bits_bd _ _ _
/-- words, one of them another -/
def wset (ws : Nat → Int) (i : Nat) (x : Int) : Nat → Int := fun j => if j = i then x else ws j
/-- the buffer's own two blocks may have turned -/
structure Turn2 (P Wb : Nat) (w w' : World) : Prop where
  os : w'.os = w.os
  tape : w'.tape = w.tape
  output : w'.output = w.output
  size : w.heap.size ≤ w'.heap.size
  block : ∀ k, k < w.heap.size → k ≠ P → k ≠ Wb → w'.heap[k]? = w.heap[k]?
theorem Turn2.refl (P Wb : Nat) (w : World) : Turn2 P Wb w w := ⟨rfl, rfl, rfl, Nat.le_refl _, fun _ _ _ _ => rfl⟩
theorem Turn2.trans {P Wb : Nat} {a b c : World} (h : Turn2 P Wb a b) (k : Turn2 P Wb b c) : Turn2 P Wb a c :=
  ⟨k.os.trans h.os, k.tape.trans h.tape, k.output.trans h.output, Nat.le_trans h.size k.size, fun i hi h1 h2 => (k.block i (Nat.lt_of_lt_of_le hi h.size) h1 h2).trans (h.block i hi h1 h2)⟩
theorem Turn2.of {P Wb : Nat} {a b : World} (h : Below a.heap.size a b) : Turn2 P Wb a b := ⟨h.os, h.tape, h.output, h.size, fun k hk _ _ => h.block k hk⟩
theorem set_other {w : World} {b k : Nat} {o : Nat} {v : Value} (h : k ≠ b) : (w.setCell ⟨b, o, none⟩ v).heap[k]? = w.heap[k]? := by
  show (w.heap.modify b _)[k]? = _
  rw [Array.getElem?_modify, if_neg (fun e => h e.symm)]
theorem Turn2.setP {P Wb : Nat} {w : World} {o : Nat} {v : Value} : Turn2 P Wb w (w.setCell ⟨P, o, none⟩ v) := ⟨rfl, rfl, rfl, by rw [set_size]; exact Nat.le_refl _, fun k hk h1 _ => set_other h1⟩
theorem Turn2.setW {P Wb : Nat} {w : World} {o : Nat} {v : Value} : Turn2 P Wb w (w.setCell ⟨Wb, o, none⟩ v) := ⟨rfl, rfl, rfl, by rw [set_size]; exact Nat.le_refl _, fun k hk _ h2 => set_other h2⟩
theorem Bufw.count {w : World} {P Wb n : Nat} {ws : Nat → Int} {c : Int} (h : Bufw w P Wb n ws c) (c' : Int) : Bufw (w.setCell ⟨P, 1, none⟩ (.int .i64 c')) P Wb n ws c' :=
  ⟨(World.cell?_setCell_other _ _ _ _ (by simp)).trans h.p0, World.cell?_setCell_same _ _ _ h.p1, (World.frozen?_setCell _ _ _ _).trans h.f1, fun j hj => (World.cell?_setCell_other _ _ _ _ (by simp [h.ne])).trans (h.r j hj), fun j hj => (World.frozen?_setCell _ _ _ _).trans (h.f j hj), h.b, h.ne, by rw [set_size]; exact h.pl, by rw [set_size]; exact h.wl, h.n0⟩
theorem Bufw.store {w w' : World} {P Wb n : Nat} {ws : Nat → Int} {c : Int} (h : Bufw w P Wb n ws c) {i : Nat} (hi : i < n) {x : Int} (hx : 0 ≤ x ∧ x < 18446744073709551616) (hp : PutB w w' Wb i (.int .u64 x)) : Bufw w' P Wb n (wset ws i x) c := by
  have h1 : Bufw (w.setCell ⟨Wb, i, none⟩ (.int .u64 x)) P Wb n (wset ws i x) c := by
    refine ⟨(World.cell?_setCell_other _ _ _ _ (by simp [Ne.symm h.ne])).trans h.p0, (World.cell?_setCell_other _ _ _ _ (by simp [Ne.symm h.ne])).trans h.p1, (World.frozen?_setCell _ _ _ _).trans h.f1, fun j hj => ?_, fun j hj => (World.frozen?_setCell _ _ _ _).trans (h.f j hj), fun j hj => ?_, h.ne, by rw [set_size]; exact h.pl, by rw [set_size]; exact h.wl, h.n0⟩
    · unfold wset
      by_cases e : j = i
      · subst e
        rw [if_pos rfl]
        exact World.cell?_setCell_same _ _ _ (h.r j hj)
      · rw [if_neg e]
        exact (World.cell?_setCell_other _ _ _ _ (by intro h9; injection h9 with _ h8 _; exact e h8.symm)).trans (h.r j hj)
    · unfold wset
      by_cases e : j = i
      · rw [if_pos e]; exact hx
      · rw [if_neg e]; exact h.b j hj
  exact h1.below (by rw [set_size]; exact hp)
theorem Turn2.put {P Wb o : Nat} {w w' : World} {v : Value} (h : PutB w w' Wb o v) : Turn2 P Wb w w' := Turn2.setW.trans (.of (by rw [set_size]; exact h))
/-- what a field's store makes of the words -/
def wput (ws : Nat → Int) (at_ n v : Int) : Nat → Int := wset ws (at_ / 8).toNat (fldPut (ws (at_ / 8).toNat) (8 * (at_ % 8)) (maskOf n) v)
end Go.Proofs.YtpbhfckefmboaaaGreatDoor.Ba
