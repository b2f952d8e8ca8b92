/- The library's Repeat at one number. -/
import Derived.Test.YtiapphhldedckaaCountX
import Derived.Test.YtiapphhldedckaaNextR
import Derived.Laws.CopyOwn
import Derived.Deep.RegionLaw
import Derived.OwnWalk
import Derived.Deep.RegionHeld3
namespace Go.Proofs.Ytiapphhldedckaa.Ex
open Go.RowKit Go.Sort Nx
def RepRes (w : World) (n : Nat) (x : Int) (e : Ending) (w' : World) : Prop := ∃ v, e = .returned v ∧ w'.ownsRow w.heap.size 3 1 v n (List.replicate n (.int .i64 x)) ∧ v ≠ .slice none 0 0 ∧ Below w.heap.size w w'
theorem Try.info3m : (Try.prog.info? 3).map (·.size) = some 1 := by kernel_rfl
theorem mul31 (n : Nat) (hn : n ≤ 64) (w : World) : Calls Try.prog 31 #[.int .u64 1, .int .u64 n] w fun e w' => e = .returned (.tuple #[.int .u64 0, .int .u64 n]) ∧ w = w' := by
  refine (Try.bits_Mul 1 n (by omega) (by omega) w).mono ?_
  rintro e w' ⟨rfl, rfl⟩
  have e1 : 1 * n / 18446744073709551616 = 0 := by omega
  have e2 : 1 * n % 18446744073709551616 = n := by omega
  rw [e1, e2]
  exact ⟨rfl, rfl⟩
theorem take_replicate_splice (L : List Value) (m c : Nat) (u : Value) (h : L.take m = List.replicate m u) (_hm : m + c ≤ L.length) : (splice L m (List.replicate c u)).take (m + c) = List.replicate (m + c) u := by
  unfold splice
  rw [h, ← List.append_assoc, List.replicate_append_replicate, List.take_left' (by simp)]
theorem rep_cell {w : World} {g m : Nat} {L : List Value} {u : Value} (hg : w.heap[g]? = some (.cells L.toArray 3 (0, 0))) (hL : L.take m = List.replicate m u) {j : Nat} (hj : j < m) : w.cell? ⟨g, j, none⟩ = some u := by
  simp only [World.cell?, hg]
  have h1 : (L.take m)[j]? = some u := by rw [hL, List.getElem?_replicate, if_pos hj]
  rw [List.getElem?_take_of_lt hj] at h1
  simpa using h1
/-- what a new row is known to be -/
def NewRow (w w1 : World) (n : Nat) (L : List Value) : Prop := w1.heap[w.heap.size]? = some (.cells L.toArray 3 (0, 0)) ∧ L.length = n ∧ Below w.heap.size w w1
theorem newRow_of {w w1 : World} {n : Nat} {xs : List Value} (hown : w1.ownsRow w.heap.size 3 1 (.slice (some ⟨w.heap.size, 0, none⟩) n n) n xs) (hg : w.grownBy w1 none) : ∃ L, NewRow w w1 n L := by
  rcases hown.2 with ⟨h1, _⟩ | ⟨g', cap', cur, h1, _, hg', _, _, hs, _⟩
  · cases h1
  · cases h1
    exact ⟨cur.toList, by simpa using hg', by simpa using hs, (Below.refl _ w).grown hg (Nat.le_refl _) (fun j hj => by cases hj)⟩
def Filled (w w1 : World) (n m : Nat) (u : Value) : Prop := ∃ L, NewRow w w1 n L ∧ L.take m = List.replicate m u
theorem filled_own {w w1 : World} {n : Nat} {u : Value} (h : Filled w w1 n n u) (hn : n ≤ maxLen) : w1.ownsRow w.heap.size 3 1 (.slice (some ⟨w.heap.size, 0, none⟩) n n) n (List.replicate n u) := by
  obtain ⟨L, ⟨h1, h2, _⟩, h3⟩ := h
  refine ⟨by simp, .inr ⟨w.heap.size, n, L.toArray, rfl, Nat.le_refl _, h1, Nat.le_refl _, hn, by simp [h2], by simpa using h3⟩⟩
theorem one_cell {w : World} {a : Nat} {u : Value} (h : w.cell? ⟨a, 0, none⟩ = some u) : ∀ (j : Nat) (v : Value), [u][j]? = some v → w.cell? ((⟨a, 0, none⟩ : Addr).add j) = some v := by
  intro j v hv
  cases j with
  | zero => cases hv; exact h
  | succ j => simp at hv
theorem copy_facts {w w1 : World} {n m : Nat} {L : List Value} {u : Value} (hN : NewRow w w1 n L) (hT : L.take m = List.replicate m u) (hm : m ≤ n) :
    (List.replicate (min m (n - m)) u).length = Nat.min m (n - m) ∧
    (0 < (List.replicate (min m (n - m)) u).length → (some ⟨w.heap.size, m, none⟩ : Option Addr) = some ⟨w.heap.size, m, none⟩ ∧ ∃ ad, (some ⟨w.heap.size, 0, none⟩ : Option Addr) = some ad ∧ ∀ (j : Nat) (v : Value), (List.replicate (min m (n - m)) u)[j]? = some v → w1.cell? (ad.add j) = some v) ∧
    m + (List.replicate (min m (n - m)) u).length ≤ L.length := by
  refine ⟨by simp, fun _ => ⟨rfl, _, rfl, fun j v hv => ?_⟩, by simp [hN.2.1]; omega⟩
  rw [List.getElem?_replicate] at hv
  split at hv
  · cases hv
    rw [Addr.add_lit, Nat.zero_add]
    exact rep_cell hN.1 hT (by omega)
  · cases hv
set_option maxHeartbeats 3200000 in
set_option maxRecDepth 1000000 in
theorem rep22 (a n : Nat) (x : Int) (w : World) (hn0 : 0 < n) (hn : n ≤ 64) (hc : w.cell? ⟨a, 0, none⟩ = some (.int .i64 x)) :
    Calls Try.prog 22 #[.slice (some ⟨a, 0, none⟩) 1 1, .int .i64 n] w (RepRes w n x) := by
  obtain ⟨t0, hi, hz0, hz1, hz2⟩ := info_parts Nx.Try.info3
  have ha : a < w.heap.size := World.block_lt_of_cell? w _ hc
  have hn1 : (n : Int) ≤ 64 := by omega
  have hn2 : (0 : Int) < (n : Int) := by omega
  have HC := Lib.hid hc
  clear hc
  go_enter Try.func22, Try.ntmps22
  go_wp2_with (first
    | (go_at_call 31; go_must (refine (mul31 n hn _).mono ?_; rintro e w' ⟨rfl, rfl⟩))
    | (at_make; refine wpList_make_full _ rfl _ _ 22 rfl w.heap.size 3 t0 _ 1 Try.underlying22 hi hz0 hz1 .i64 .i64 _ _ n rfl rfl rfl rfl (by rw [hz2]; omega) (by unfold maxLen; omega) (Nat.le_refl _) ?_; intro w1 hown1 hgrow1; obtain ⟨L, hL⟩ := newRow_of hown1 hgrow1; have HL := Lib.hid hL; clear hown1 hgrow1 hL)
    | (refine wpList_copy_splice (o := ⟨some 33, _, _, _, _, _⟩) rfl (.tmp 31) (.tmp 32) 22 22 rfl 3 Try.underlying22 Try.info3m (some ⟨w.heap.size, 0, none⟩) (some ⟨a, 0, none⟩) n n 1 1 rfl rfl w.heap.size 0 L 3 HL.out.1 [.int .i64 x] ?c1 ?c2 ?c3 ?c4 w.heap.size w HL.out.2.2 (Nat.le_refl _) ?_))
  case c1 => show 1 = min 1 n; omega
  case c2 =>
    intro j v hv
    have h9 := one_cell ((HL.out.2.2.cell ha).trans HC.out) j v hv
    rwa [Addr.add_lit, Nat.zero_add] at h9
  case c3 => have := HL.out.2.1; simp; omega
  case c4 => intro v hv; cases List.mem_singleton.1 hv; rfl
  intro w2 hg2 hb2
  have hF : Filled w w2 n 1 (.int .i64 x) := by
    refine ⟨_, ⟨hg2.out, ?_, hb2⟩, ?_⟩
    · rw [length_splice _ _ _ (by have := HL.out.2.1; simp; omega)]; exact HL.out.2.1
    · simp [splice]
  have HF := Lib.hid hF
  clear hg2 hb2 hF HL
  go_wp2_with fail
  go_loopw [8] (fun s wr => ∃ m : Nat, 1 ≤ m ∧ m ≤ n ∧ s = .int .i64 m ∧ Hid (Filled w wr n m (.int .i64 x))) (fun s _ => n - (intOf s).toNat)
  case atStart => exact ⟨1, by omega, by omega, rfl, HF⟩
  case round =>
    obtain ⟨m, hm1, hm2, rfl, HM⟩ := hrel
    by_cases hlt : m < n
    · have hm3 : (0 : Int) ≤ (m : Int) := by omega
      have hm4 : (m : Int) < (n : Int) := by omega
      obtain ⟨L2, hN, hT⟩ := HM.out
      have HN := Lib.hid hN
      have HT := Lib.hid hT
      clear hN hT HM
      have hnm : ¬ n = m := by omega
      have hmn : m ≤ n := hm2
      go_wp2_with fail
      obtain ⟨f1, f2, f3⟩ := copy_facts HN.out HT.out hmn
      have F1 := Lib.hid f1
      have F2 := Lib.hid f2
      have F3 := Lib.hid f3
      clear f1 f2 f3
      go_region_held3 (fun _ => True) (trivial)
        ((refine step_copy_splice (o := ⟨some 45, _, _, _, _, _⟩) rfl (.tmp 41) (.tmp 44) 22 22 rfl 3 Try.underlying22 Try.info3m (some ⟨w.heap.size, m, none⟩) (some ⟨w.heap.size, 0, none⟩) (n - m) (n - m) m n rfl rfl w.heap.size m L2 3 (by exact HN.out.1) (List.replicate (min m (n - m)) (.int .i64 x)) F1.out (by exact F2.out) F3.out (by intro v hv; rw [List.eq_of_mem_replicate hv]; rfl) w.heap.size w (by exact HN.out.2.2.drew) (Nat.le_refl _) ?_; intro w4 hg4 hb4))
      have hF4 : Filled w w4 n (m + min m (n - m)) (.int .i64 x) :=
        ⟨_, ⟨hg4.out, by rw [length_splice _ _ _ F3.out]; exact HN.out.2.1, hb4⟩, take_replicate_splice _ _ _ _ HT.out (by rw [HN.out.2.1]; omega)⟩
      have hw8 : IntKind.i64.wrap ((m : Int) + ((min m (n - m) : Nat) : Int)) = ((m + min m (n - m) : Nat) : Int) := by rw [IntKind.wrap_i64]; omega
      have HF4 := Lib.hid hF4
      have HW8 := Lib.hid hw8
      clear hg4 hb4 hF4 hw8
      go_wp2
      go_roundw
      case rel => exact ⟨m + min m (n - m), by omega, by omega, by rw [HW8.out], HF4⟩
      case measure => rw [HW8.out]; simp [intOf]; omega
    · obtain rfl : m = n := by omega
      have hfin := filled_own HM.out (by unfold maxLen; omega)
      have hbel : Below w.heap.size w wr := HM.out.choose_spec.1.2.2
      have HFin := Lib.hid hfin
      have HBel := Lib.hid hbel
      clear hfin hbel
      go_wp2
      go_ret
      exact ⟨_, rfl, HFin.out, by simp, HBel.out⟩
set_option maxHeartbeats 3200000 in
set_option maxRecDepth 1000000 in
theorem rep22_zero (a : Nat) (x : Int) (w : World) (hc : w.cell? ⟨a, 0, none⟩ = some (.int .i64 x)) :
    Calls Try.prog 22 #[.slice (some ⟨a, 0, none⟩) 1 1, .int .i64 0] w (RepRes w 0 x) := by
  obtain ⟨t0, hi, hz0, hz1, hz2⟩ := info_parts Nx.Try.info3
  have HC := Lib.hid hc
  clear hc
  go_enter Try.func22, Try.ntmps22
  go_wp2_with (first
    | (go_at_call 31; go_must (refine (mul31 0 (by omega) _).mono ?_; rintro e w' ⟨rfl, rfl⟩))
    | (at_make; refine wpList_make_full _ rfl _ _ 22 rfl w.heap.size 3 t0 _ 1 Try.underlying22 hi hz0 hz1 .i64 .i64 _ _ 0 rfl rfl rfl rfl (by rw [hz2]; omega) (by unfold maxLen; omega) (Nat.le_refl _) ?_; intro w1 hown1 hgrow1)
    | (refine wpList_copy_nothing (o := ⟨some 33, _, _, _, _, _⟩) rfl (.tmp 31) (.tmp 32) 22 22 rfl 3 Try.underlying22 Try.info3m (some ⟨w.heap.size, 0, none⟩) (some ⟨a, 0, none⟩) 0 0 1 1 rfl rfl rfl ?_))
  have hB : Below w.heap.size w w1 := (Below.refl _ w).grown hgrow1 (Nat.le_refl _) (fun j hj => by cases hj)
  have hO : w1.ownsRow w.heap.size 3 1 (.slice (some ⟨w.heap.size, 0, none⟩) 0 0) 0 [] := by
    have := hown1
    have e : (madeCells (Value.int .i64 0).cells (0 * 1)).toList = [] := List.eq_nil_of_length_eq_zero (by simpa using hown1.1)
    rwa [e] at this
  have HB := Lib.hid hB
  have HO := Lib.hid hO
  clear hown1 hgrow1 hB hO
  refine wp_loop_rounds 1 ?_
  rw [rounds_succ]
  go_wp2
  go_ret
  exact ⟨_, rfl, HO.out, by simp, HB.out⟩
theorem rep_any (a n : Nat) (x : Int) (w : World) (hn : n ≤ 64) (hc : w.cell? ⟨a, 0, none⟩ = some (.int .i64 x)) :
    Calls Try.prog 22 #[.slice (some ⟨a, 0, none⟩) 1 1, .int .i64 n] w (RepRes w n x) := by
  rcases Nat.eq_zero_or_pos n with rfl | h
  · exact rep22_zero a x w hc
  · exact rep22 a n x w h hn hc
end Go.Proofs.Ytiapphhldedckaa.Ex
