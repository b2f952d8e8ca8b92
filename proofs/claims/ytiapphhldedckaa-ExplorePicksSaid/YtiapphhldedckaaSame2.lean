/- The document's Same at two rows of events that hold nothing but an actor's number, alike in both: the walk. -/
import Derived.Test.YtiapphhldedckaaSame
import Derived.Outline
namespace Go.Proofs.Ytiapphhldedckaa
open Go.RowKit
/-- the cells of an event that holds an actor's number and nothing else -/
def evc (z : Int) : List Value := [.int .i64 0, .int .i64 z, .int .i64 0, .int .i64 0, .int .i64 0, .int .i64 0, .int .u64 0, .int .u64 0, .slice none 0 0, .int .u64 0, .bool false, .slice none 0 0]
def evs (l : List Int) : List Value := l.flatMap evc
def Here (a b k : Nat) (z : Int) (w : World) : Prop := w.cell? ⟨a, k * 12, none⟩ = some (.int .i64 0) ∧ w.cell? ⟨a, k * 12 + 1, none⟩ = some (.int .i64 z) ∧ w.cell? ⟨a, k * 12 + 2, none⟩ = some (.int .i64 0) ∧ w.cell? ⟨a, k * 12 + 3, none⟩ = some (.int .i64 0) ∧ w.cell? ⟨a, k * 12 + 4, none⟩ = some (.int .i64 0) ∧ w.cell? ⟨a, k * 12 + 5, none⟩ = some (.int .i64 0) ∧ w.cell? ⟨a, k * 12 + 6, none⟩ = some (.int .u64 0) ∧ w.cell? ⟨a, k * 12 + 7, none⟩ = some (.int .u64 0) ∧ w.cell? ⟨a, k * 12 + 8, none⟩ = some (.slice none 0 0) ∧ w.cell? ⟨a, k * 12 + 9, none⟩ = some (.int .u64 0) ∧ w.cell? ⟨a, k * 12 + 10, none⟩ = some (.bool false) ∧ w.cell? ⟨a, k * 12 + 11, none⟩ = some (.slice none 0 0) ∧ w.cell? ⟨b, k * 12, none⟩ = some (.int .i64 0) ∧ w.cell? ⟨b, k * 12 + 1, none⟩ = some (.int .i64 z) ∧ w.cell? ⟨b, k * 12 + 2, none⟩ = some (.int .i64 0) ∧ w.cell? ⟨b, k * 12 + 3, none⟩ = some (.int .i64 0) ∧ w.cell? ⟨b, k * 12 + 4, none⟩ = some (.int .i64 0) ∧ w.cell? ⟨b, k * 12 + 5, none⟩ = some (.int .i64 0) ∧ w.cell? ⟨b, k * 12 + 6, none⟩ = some (.int .u64 0) ∧ w.cell? ⟨b, k * 12 + 7, none⟩ = some (.int .u64 0) ∧ w.cell? ⟨b, k * 12 + 8, none⟩ = some (.slice none 0 0) ∧ w.cell? ⟨b, k * 12 + 9, none⟩ = some (.int .u64 0) ∧ w.cell? ⟨b, k * 12 + 10, none⟩ = some (.bool false) ∧ w.cell? ⟨b, k * 12 + 11, none⟩ = some (.slice none 0 0)
theorem here_of {a b k : Nat} {z : Int} {w wr : World} (hx : Below w.heap.size w wr) (ha : a < w.heap.size) (hb : b < w.heap.size) (h : Here a b k z w) : Here a b k z wr := by
  unfold Here at h ⊢
  obtain ⟨h0, h1, h2, h3, h4, h5, h6, h7, h8, h9, h10, h11, h12, h13, h14, h15, h16, h17, h18, h19, h20, h21, h22, h23⟩ := h
  exact ⟨(hx.cell ha).trans h0, (hx.cell ha).trans h1, (hx.cell ha).trans h2, (hx.cell ha).trans h3, (hx.cell ha).trans h4, (hx.cell ha).trans h5, (hx.cell ha).trans h6, (hx.cell ha).trans h7, (hx.cell ha).trans h8, (hx.cell ha).trans h9, (hx.cell ha).trans h10, (hx.cell ha).trans h11, (hx.cell hb).trans h12, (hx.cell hb).trans h13, (hx.cell hb).trans h14, (hx.cell hb).trans h15, (hx.cell hb).trans h16, (hx.cell hb).trans h17, (hx.cell hb).trans h18, (hx.cell hb).trans h19, (hx.cell hb).trans h20, (hx.cell hb).trans h21, (hx.cell hb).trans h22, (hx.cell hb).trans h23⟩
set_option maxRecDepth 1000000 in
set_option maxHeartbeats 1600000 in
theorem same20 (a b len ca cb : Nat) (zs : List Int) (w : World) (hlen : len ≤ 200)
    (ha : a < w.heap.size) (hb : b < w.heap.size) (hh : ∀ k, k < len → ∃ z, Here a b k z w) :
    Calls Try.prog 20 #[.slice (some ⟨a, 0, none⟩) len ca, .slice (some ⟨b, 0, none⟩) len cb] w fun e w' => e = .returned (.bool true) ∧ Below w.heap.size w w' := by
  go_enter Try.func20, Try.ntmps20
  go_wp2
  go_loopw [13] (fun i wr => ∃ k : Nat, k ≤ len ∧ i = .int .i64 k ∧ Below w.heap.size w wr) (fun i _ => len - (intOf i).toNat)
  case atStart => exact ⟨0, Nat.zero_le _, rfl, Below.refl _ _⟩
  case round =>
    obtain ⟨k, hk, rfl, hnx⟩ := hrel
    by_cases hlt : k < len
    · have h1 : (k : Int) < (len : Int) := by omega
      have h0 : (0 : Int) ≤ (k : Int) := by omega
      obtain ⟨z, hz⟩ := hh k hlt
      have hH := here_of hnx ha hb hz
      have hsz := hnx.size
      have ha' : a < wr.heap.size := by omega
      have hb' : b < wr.heap.size := by omega
      have HN := Lib.hid hnx
      clear hnx hz hh
      unfold Here at hH
      obtain ⟨g0, g1, g2, g3, g4, g5, g6, g7, g8, g9, g10, g11, g12, g13, g14, g15, g16, g17, g18, g19, g20, g21, g22, g23⟩ := hH
      have hrefl := (Below.refl wr.heap.size wr).drew
      go_wp2_with fail
      go_region_held3 (fun w' => Below wr.heap.size wr w' ∧ w'.cell? ⟨a, k * 12, none⟩ = some (.int .i64 0) ∧ w'.cell? ⟨a, k * 12 + 1, none⟩ = some (.int .i64 z) ∧ w'.cell? ⟨a, k * 12 + 2, none⟩ = some (.int .i64 0) ∧ w'.cell? ⟨a, k * 12 + 3, none⟩ = some (.int .i64 0) ∧ w'.cell? ⟨a, k * 12 + 4, none⟩ = some (.int .i64 0) ∧ w'.cell? ⟨a, k * 12 + 5, none⟩ = some (.int .i64 0) ∧ w'.cell? ⟨a, k * 12 + 6, none⟩ = some (.int .u64 0) ∧ w'.cell? ⟨a, k * 12 + 7, none⟩ = some (.int .u64 0) ∧ w'.cell? ⟨a, k * 12 + 8, none⟩ = some (.slice none 0 0) ∧ w'.cell? ⟨a, k * 12 + 9, none⟩ = some (.int .u64 0) ∧ w'.cell? ⟨a, k * 12 + 10, none⟩ = some (.bool false) ∧ w'.cell? ⟨a, k * 12 + 11, none⟩ = some (.slice none 0 0) ∧ w'.cell? ⟨b, k * 12, none⟩ = some (.int .i64 0) ∧ w'.cell? ⟨b, k * 12 + 1, none⟩ = some (.int .i64 z) ∧ w'.cell? ⟨b, k * 12 + 2, none⟩ = some (.int .i64 0) ∧ w'.cell? ⟨b, k * 12 + 3, none⟩ = some (.int .i64 0) ∧ w'.cell? ⟨b, k * 12 + 4, none⟩ = some (.int .i64 0) ∧ w'.cell? ⟨b, k * 12 + 5, none⟩ = some (.int .i64 0) ∧ w'.cell? ⟨b, k * 12 + 6, none⟩ = some (.int .u64 0) ∧ w'.cell? ⟨b, k * 12 + 7, none⟩ = some (.int .u64 0) ∧ w'.cell? ⟨b, k * 12 + 8, none⟩ = some (.slice none 0 0) ∧ w'.cell? ⟨b, k * 12 + 9, none⟩ = some (.int .u64 0) ∧ w'.cell? ⟨b, k * 12 + 10, none⟩ = some (.bool false) ∧ w'.cell? ⟨b, k * 12 + 11, none⟩ = some (.slice none 0 0))
        (first | exact ⟨hrefl, g0, g1, g2, g3, g4, g5, g6, g7, g8, g9, g10, g11, g12, g13, g14, g15, g16, g17, g18, g19, g20, g21, g22, g23⟩ | (go_split_ands; have hbb := ‹Below wr.heap.size wr _›; refine ⟨?_, ?_, ?_, ?_, ?_, ?_, ?_, ?_, ?_, ?_, ?_, ?_, ?_, ?_, ?_, ?_, ?_, ?_, ?_, ?_, ?_, ?_, ?_, ?_, ?_⟩ <;> first | assumption | exact hbb.drew | exact hbb.trans (hb1.mono hbb.size) | exact hbb.trans (hb2.mono hbb.size) | (rw [hb1.cell (Nat.lt_of_lt_of_le (by assumption) hbb.size)]; assumption) | (rw [hb2.cell (Nat.lt_of_lt_of_le (by assumption) hbb.size)]; assumption)))
        (first | (go_at_call 27; refine (acc_ok _).mono ?_; rintro e w' ⟨rfl, hb1⟩) | (go_at_call 28; refine (ans_ok _).mono ?_; rintro e w' ⟨rfl, hb2⟩))
      rename_i hHeld
      have hB : Below w.heap.size w w' := HN.out.trans (hHeld.1.mono hsz)
      clear hHeld
      clear hb1 hb2 hrefl
      clear g0 g1 g2 g3 g4 g5 g6 g7 g8 g9 g10 g11 g12 g13 g14 g15 g16 g17 g18 g19 g20 g21 g22 g23
      go_wp2
      go_roundw
      case rel => exact ⟨k + 1, by omega, by go_num, hB⟩
      case measure => simp [intOf]; omega
    · obtain rfl : len = k := by omega
      go_wp2
      go_ret
      exact ⟨rfl, hnx⟩
end Go.Proofs.Ytiapphhldedckaa
