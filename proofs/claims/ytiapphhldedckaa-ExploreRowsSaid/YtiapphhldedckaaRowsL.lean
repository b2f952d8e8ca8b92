/- The walk of ExploreRows. -/
import Derived.Test.YtiapphhldedckaaGo
import Derived.Test.YtiapphhldedckaaNextL
namespace Go.Proofs.Ytiapphhldedckaa.Ex
open Go.RowKit Go.Sort Nx
theorem Held.form {w : World} {v : Value} {l : List Int} (h : Held w v l) : ∃ A c, v = .slice A l.length c := by
  rcases h with ⟨rfl, a, c, rfl⟩ | ⟨g, c, rfl, _⟩
  · exact ⟨a, c, rfl⟩
  · exact ⟨_, c, rfl⟩
theorem same_held {w : World} {v u : Value} {l : List Int} (hl : l.length ≤ 9000) (h : Held w v l) (k : Held w u l) : Calls Try.prog 11 #[v, u] w fun e w' => e = .returned (.bool true) ∧ ∃ m, w' = w.drewN m := by
  rcases h with ⟨rfl, a, c, rfl⟩ | ⟨g, c, rfl, h0, _, hh⟩
  · rcases k with ⟨_, a', c', rfl⟩ | ⟨_, _, _, h0, _⟩
    · exact (same_zero11 a a' c c' w).mono fun e w' ⟨he, hw⟩ => ⟨he, 0, by subst hw; rfl⟩
    · simp at h0
  · rcases k with ⟨rfl, _⟩ | ⟨g', c', rfl, _, _, hk⟩
    · simp at h0
    · exact same_eq11 g 0 g' 0 c c' l.length l.toArray w (by simp) (by omega) (Reads.of_holds' hh) (Reads.of_holds' hk)
/-- Nth at counts that may be -/
structure NthAny (n : Int) (d : Array Int) (w : World) (v : Value) (g : Int) (w' : World) : Prop where
  below : Below w.heap.size w w'
  off : Off n d → v = .slice none 0 0 ∧ g = 2
  on : ∀ r, cnt (nats d) = some r → r < FAR → 0 ≤ n → n < r → g = 0 ∧ ∃ row, (rows (nats d).sum (nats d))[n.toNat]? = some row ∧ Held w' v row
def NthAnyRes (n : Int) (d : Array Int) (w : World) (e : Ending) (w' : World) : Prop := ∃ v g, e = .returned (.tuple #[v, .int .i64 g]) ∧ NthAny n d w v g w'
set_option maxHeartbeats 3200000 in
set_option maxRecDepth 1000000 in
theorem Nth_zero (a : Option Addr) (cap : Nat) (w : World) : Calls Try.prog 9 #[.slice a 0 cap, .int .i64 0] w fun e w' => e = .returned (.tuple #[.slice none 0 0, .int .i64 0]) ∧ Below w.heap.size w w' := by
  go_enter Try.func9, Try.ntmps9
  go_wp2_with fail
  refine (Count_ok a cap #[] w (.inl rfl) ⟨by simp, fun j hj => by simp at hj⟩).mono ?_
  rintro e w' ⟨rfl, m, rfl⟩
  rw [show (cnt (nats #[])).getD FAR = 1 from rfl]
  go_wp2_with fail
  cases a with
  | none =>
    refine (Try.slices_Clone_int_nil 0 cap (w.drewN m)).mono ?_
    rintro e w' ⟨rfl, rfl⟩
    go_wp2_with fail
    refine wp_loop_rounds 1 ?_
    rw [rounds_succ]
    go_wp2_with fail
    refine (sum_zero none 0 _).mono ?_
    rintro e w' ⟨rfl, rfl⟩
    go_wp2
    go_ret2
    exact ⟨rfl, below_drewN (Below.refl _ _) _⟩
  | some ad =>
    refine (Try.slices_Clone_int_zero ad cap (w.drewN m)).mono ?_
    rintro e w1 ⟨v, rfl, hown, hne, hb⟩
    obtain ⟨g, c, rfl, _⟩ := own_form hown hne
    have HB := Lib.hid (below_of_drewN hb)
    clear hown hb hne
    go_wp2_with fail
    refine wp_loop_rounds 1 ?_
    rw [rounds_succ]
    go_wp2_with fail
    refine (sum_zero (some ⟨g, 0, none⟩) c _).mono ?_
    rintro e w' ⟨rfl, rfl⟩
    go_wp2
    go_ret2
    exact ⟨rfl, HB.out⟩
theorem Nth_any (a : Option Addr) (cap : Nat) (d : Array Int) (n : Int) (w : World) (h : SliceOf w a d) (hf : Right d) : Calls Try.prog 9 #[.slice a d.size cap, .int .i64 n] w (NthAnyRes n d w) := by
  by_cases ho : Off n d
  · refine (Nth_off a cap d n w h hf ho).mono ?_
    rintro e w' ⟨rfl, m, rfl⟩
    refine ⟨_, _, rfl, below_drewN (Below.refl _ _) _, fun _ => ⟨rfl, rfl⟩, fun r hr hrF h0 hn => ?_⟩
    unfold Off at ho
    rw [hr] at ho
    simp at ho
    omega
  · have ho' := ho
    unfold Off at ho'
    by_cases hL : FAR ≤ (cnt (nats d)).getD FAR
    · refine (Nth_long a cap d n w h hf (by omega) hL).mono ?_
      rintro e w' ⟨rfl, m, rfl⟩
      refine ⟨_, _, rfl, below_drewN (Below.refl _ _) _, fun h2 => absurd h2 ho, fun r hr hrF h0 hn => ?_⟩
      rw [hr] at hL
      simp at hL
      omega
    · cases hc : cnt (nats d) with
      | none => rw [hc] at hL; simp at hL
      | some r =>
        rw [hc] at hL ho'
        simp at hL ho'
        obtain ⟨k, rfl⟩ := Int.eq_ofNat_of_zero_le (show 0 ≤ n by omega)
        have hkr : k < r := by omega
        have hlen := cnt_rows hc
        have hrow : (rows (nats d).sum (nats d))[k]? = some ((rows (nats d).sum (nats d))[k]'(by omega)) := List.getElem?_eq_getElem _
        rcases Nat.eq_zero_or_pos d.size with hz | hz
        · have e : nats d = [] := List.eq_nil_of_length_eq_zero (by rw [nats_length]; exact hz)
          have hr1 : r = 1 := by rw [e] at hc; cases hc; rfl
          obtain rfl : k = 0 := by omega
          rw [hz]
          refine (Nth_zero a cap w).mono ?_
          rintro e' w' ⟨rfl, hb⟩
          refine ⟨_, _, rfl, hb, fun h2 => absurd h2 ho, fun r' hr' _ _ _ => ⟨rfl, [], by rw [e]; rfl, .inl ⟨rfl, none, 0, rfl⟩⟩⟩
        · rcases h with h | ⟨b, off, rfl, hb, hr⟩
          · omega
          · refine (Nth_ok b off cap d k r _ w hf hb hz hr hc hL hrow hkr).mono ?_
            rintro e' w' ⟨v, rfl, hro, hbel⟩
            exact ⟨_, _, rfl, hbel, fun h2 => absurd h2 ho, fun r' hr' _ _ _ => ⟨rfl, _, hrow, Held.of_row hro⟩⟩
end Go.Proofs.Ytiapphhldedckaa.Ex
