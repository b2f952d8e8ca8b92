/- The walk of ExplorePicks. -/
import Derived.Test.YtiapphhldedckaaSame2
namespace Go.Proofs.Ytiapphhldedckaa
open Go.RowKit
theorem Try.info50 : (Try.prog.info? 50).map (fun i => (i.zero, i.size, i.bytes)) = some (some (.agg (evc 0).toArray), 12, 128) := by kernel_rfl
theorem evs_snoc (l : List Int) (z : Int) : evs (l ++ [z]) = evs l ++ evc z := by simp [evs]
theorem evs_length (l : List Int) : (evs l).length = l.length * 12 := by
  induction l with
  | nil => rfl
  | cons x l ih => rw [show evs (x :: l) = evc x ++ evs l from rfl, List.length_append, ih]; simp [evc]; omega
theorem pk_length (l : List Int) : (pk l).length = l.length * 3 := by
  induction l with
  | nil => rfl
  | cons x l ih => rw [show pk (x :: l) = [.int .i64 0, .int .i64 x, .int .i64 0] ++ pk l from rfl, List.length_append, ih]; simp; omega
theorem pk_get (l : List Int) (k j : Nat) (hk : k < l.length) (hj : j < 3) : (pk l)[k * 3 + j]? = [Value.int .i64 0, .int .i64 (l.getD k 0), .int .i64 0][j]? := by
  induction l generalizing k with
  | nil => simp at hk
  | cons x l ih =>
    rw [show pk (x :: l) = [.int .i64 0, .int .i64 x, .int .i64 0] ++ pk l from rfl]
    cases k with
    | zero => rw [List.getElem?_append_left (by simp; omega)]; simp
    | succ k =>
      rw [List.getElem?_append_right (by simp; omega)]
      have := ih k (by simpa using hk)
      rw [show (k + 1) * 3 + j - [Value.int .i64 0, .int .i64 x, .int .i64 0].length = k * 3 + j from by simp; omega, this]
      simp
theorem evs_get (l : List Int) (k j : Nat) (hk : k < l.length) (hj : j < 12) : (evs l)[k * 12 + j]? = (evc (l.getD k 0))[j]? := by
  induction l generalizing k with
  | nil => simp at hk
  | cons x l ih =>
    rw [show evs (x :: l) = evc x ++ evs l from rfl]
    have hl : (evc x).length = 12 := rfl
    cases k with
    | zero => rw [List.getElem?_append_left (by omega)]; simp
    | succ k =>
      rw [List.getElem?_append_right (by omega)]
      have := ih k (by simpa using hk)
      rw [show (k + 1) * 12 + j - (evc x).length = k * 12 + j from by omega, this]
      simp
/-- a cell of an owned row -/
theorem own_cell {w : World} {base : Nat} {e : TypeId} {size n g cap : Nat} {xs : List Value} (h : w.ownsRow base e size (.slice (some ⟨g, 0, none⟩) n cap) n xs) {j : Nat} {v : Value} (hj : xs[j]? = some v) : w.cell? ⟨g, j, none⟩ = some v := by
  rcases h.2 with ⟨h1, _⟩ | ⟨g', cap', cur, h1, _, hg, hn, hm, hs, ht⟩
  · cases h1
  · cases h1
    have hl := h.1
    have hjl : j < xs.length := (List.getElem?_eq_some_iff.1 hj).1
    rw [← ht, List.getElem?_take_of_lt (by omega)] at hj
    simp only [World.cell?, hg]
    simpa using hj
theorem grown_of_below {w w' : World} (h : Below w.heap.size w w') : w.grownBy w' none := ⟨h.os, h.tape, h.output, h.size, fun k hk _ => h.block k hk⟩
theorem own_kept {w w' : World} {base : Nat} {e : TypeId} {size n : Nat} {v : Value} {xs : List Value} (h : w.ownsRow base e size v n xs) (hb : Below w.heap.size w w') : w'.ownsRow base e size v n xs := by
  refine h.kept (grown_of_below hb) ?_
  cases ho : v.ownBlock with
  | none => exact .inl rfl
  | some k => exact .inr (by simp)
theorem own_some {w : World} {base : Nat} {e : TypeId} {size n : Nat} {v : Value} {xs : List Value} (h : w.ownsRow base e size v n xs) (hn : 0 < n) : ∃ g cap, v = .slice (some ⟨g, 0, none⟩) n cap ∧ base ≤ g ∧ g < w.heap.size := by
  rcases h.2 with ⟨_, h1⟩ | ⟨g, cap, cur, h1, hb, hg, _⟩
  · omega
  · exact ⟨g, cap, h1, hb, (Array.getElem?_eq_some_iff.1 hg).1⟩
theorem here_own {w : World} {base1 base2 e a b len ca cb : Nat} {l : List Int} (ha : w.ownsRow base1 e 12 (.slice (some ⟨a, 0, none⟩) len ca) len (evs l)) (hb : w.ownsRow base2 e 12 (.slice (some ⟨b, 0, none⟩) len cb) len (evs l)) {k : Nat} (hk : k < l.length) : Here a b k (l.getD k 0) w := by
  unfold Here
  refine ⟨?_, ?_, ?_, ?_, ?_, ?_, ?_, ?_, ?_, ?_, ?_, ?_, ?_, ?_, ?_, ?_, ?_, ?_, ?_, ?_, ?_, ?_, ?_, ?_⟩
  · exact own_cell ha (evs_get l k 0 hk (by omega))
  · exact own_cell ha (evs_get l k 1 hk (by omega))
  · exact own_cell ha (evs_get l k 2 hk (by omega))
  · exact own_cell ha (evs_get l k 3 hk (by omega))
  · exact own_cell ha (evs_get l k 4 hk (by omega))
  · exact own_cell ha (evs_get l k 5 hk (by omega))
  · exact own_cell ha (evs_get l k 6 hk (by omega))
  · exact own_cell ha (evs_get l k 7 hk (by omega))
  · exact own_cell ha (evs_get l k 8 hk (by omega))
  · exact own_cell ha (evs_get l k 9 hk (by omega))
  · exact own_cell ha (evs_get l k 10 hk (by omega))
  · exact own_cell ha (evs_get l k 11 hk (by omega))
  · exact own_cell hb (evs_get l k 0 hk (by omega))
  · exact own_cell hb (evs_get l k 1 hk (by omega))
  · exact own_cell hb (evs_get l k 2 hk (by omega))
  · exact own_cell hb (evs_get l k 3 hk (by omega))
  · exact own_cell hb (evs_get l k 4 hk (by omega))
  · exact own_cell hb (evs_get l k 5 hk (by omega))
  · exact own_cell hb (evs_get l k 6 hk (by omega))
  · exact own_cell hb (evs_get l k 7 hk (by omega))
  · exact own_cell hb (evs_get l k 8 hk (by omega))
  · exact own_cell hb (evs_get l k 9 hk (by omega))
  · exact own_cell hb (evs_get l k 10 hk (by omega))
  · exact own_cell hb (evs_get l k 11 hk (by omega))
set_option maxHeartbeats 1600000 in
set_option maxRecDepth 1000000 in
theorem picks_zero18 (a : Option Addr) (cap : Nat) (w : World) : Calls Try.prog 18 #[.slice a 0 cap] w fun e w' => e = .returned (.slice none 0 0) ∧ w = w' := by
  go_enter Try.func18, Try.ntmps18
  go_wp2
  refine wp_loop_rounds 1 ?_
  rw [rounds_succ]
  go_wp2
  go_ret
  exact ⟨rfl, rfl⟩
set_option maxHeartbeats 1600000 in
set_option maxRecDepth 1000000 in
theorem picks_zero19 (a : Option Addr) (cap : Nat) (w : World) : Calls Try.prog 19 #[.slice a 0 cap] w fun e w' => e = .returned (.slice none 0 0) ∧ w = w' := by
  go_enter Try.func19, Try.ntmps19
  go_wp2
  refine wp_loop_rounds 1 ?_
  rw [rounds_succ]
  go_wp2
  go_ret
  exact ⟨rfl, rfl⟩
set_option maxHeartbeats 1600000 in
set_option maxRecDepth 1000000 in
theorem same_zero (w : World) : Calls Try.prog 20 #[.slice none 0 0, .slice none 0 0] w fun e w' => e = .returned (.bool true) ∧ w = w' := by
  go_enter Try.func20, Try.ntmps20
  go_wp2
  refine wp_loop_rounds 1 ?_
  rw [rounds_succ]
  go_wp2
  go_ret
  exact ⟨rfl, rfl⟩
set_option maxHeartbeats 1600000 in
set_option maxRecDepth 1000000 in
theorem law_zero (a : Option Addr) (cap : Nat) (w : World) : Calls Try.prog 5 #[.slice a 0 cap] w fun e w' => e = .returned (.bool true) ∧ Below w.heap.size w w' := by
  go_enter Try.func5, Try.ntmps5
  go_wp2_with fail
  refine (fixed_ok _).mono ?_
  rintro e w1 ⟨rfl, hb1⟩
  go_wp2_with fail
  refine (picks_zero18 _ _ _).mono ?_
  rintro e w' ⟨rfl, rfl⟩
  go_wp2_with fail
  refine wp_loop_rounds 1 ?_
  rw [rounds_succ]
  go_wp2_with fail
  refine (picks_zero19 _ _ _).mono ?_
  rintro e w' ⟨rfl, rfl⟩
  go_wp2_with fail
  refine wp_loop_rounds 1 ?_
  rw [rounds_succ]
  go_wp2_with fail
  refine (same_zero _).mono ?_
  rintro e w' ⟨rfl, rfl⟩
  go_wp2
  go_ret
  exact ⟨rfl, hb1⟩
set_option maxHeartbeats 1600000 in
set_option maxRecDepth 1000000 in
theorem law_long (a : Option Addr) (len cap : Nat) (w : World) (hl : 200 < len) (hm : len ≤ maxLen) : Calls Try.prog 5 #[.slice a len cap] w fun e w' => e = .returned (.bool true) ∧ Below w.heap.size w w' := by
  unfold maxLen at hm
  go_enter Try.func5, Try.ntmps5
  go_wp2_with fail
  refine (fixed_ok _).mono ?_
  rintro e w1 ⟨rfl, hb1⟩
  go_wp2
  go_ret
  exact ⟨rfl, hb1⟩
end Go.Proofs.Ytiapphhldedckaa
