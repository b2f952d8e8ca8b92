/- Explore's and the document's Picks: a new slice of as many picks as the row has numbers, each of that actor. -/
import Derived.Test.YtiapphhldedckaaRows
import Derived.WalkKit
import Derived.WalkSpells
import Derived.Lib.Hide
namespace Go.Proofs.Ytiapphhldedckaa
open Go.RowKit
theorem Try.info42 : (Try.prog.info? 42).map (fun i => (i.zero, i.size, i.bytes)) = some (some (.agg #[.int .i64 0, .int .i64 0, .int .i64 0]), 3, 24) := by kernel_rfl
def pk (l : List Int) : List Value := l.flatMap fun z => [.int .i64 0, .int .i64 z, .int .i64 0]
theorem pk_snoc (l : List Int) (z : Int) : pk (l ++ [z]) = pk l ++ [.int .i64 0, .int .i64 z, .int .i64 0] := by simp [pk]
theorem take_snoc (zs : List Int) (k : Nat) (hk : k < zs.length) : zs.take (k + 1) = zs.take k ++ [zs.getD k 0] := by
  rw [List.take_add_one, List.getElem?_eq_getElem hk]; simp [List.getD, List.getElem?_eq_getElem hk]
theorem addr_add' (b o n : Nat) : (⟨b, o, none⟩ : Addr).add n = ⟨b, o + n, none⟩ := Addr.add_lit b o n
def PickRes (w : World) (len : Nat) (zs : List Int) (e : Ending) (w' : World) : Prop := ∃ v, e = .returned v ∧ w'.ownsRow w.heap.size 42 3 v len (pk (zs.take len)) ∧ Below w.heap.size w w'

set_option maxHeartbeats 1600000 in
set_option maxRecDepth 1000000 in
theorem picks18 (b off len cap : Nat) (zs : List Int) (w : World) (hlen : len ≤ 200) (hz : len ≤ zs.length) (hb : b < w.heap.size)
    (hc : ∀ j, j < zs.length → w.cell? ⟨b, off + j, none⟩ = some (.int .i64 (zs.getD j 0))) :
    Calls Try.prog 18 #[.slice (some ⟨b, off, none⟩) len cap] w (PickRes w len zs) := by
  obtain ⟨i0, hi, hz0, hz1, hz2⟩ := info_parts Try.info42
  go_enter Try.func18, Try.ntmps18
  go_wp2
  go_loopw [3, 8] (fun v i wr => ∃ k : Nat, k ≤ len ∧ i = .int .i64 k ∧ wr.ownsRow w.heap.size 42 3 v k (pk (zs.take k)) ∧ Below w.heap.size w wr)
    (fun _ i _ => len - (intOf i).toNat)
  case atStart => exact ⟨0, Nat.zero_le _, rfl, World.ownsRow_nil _ _ _ _, Below.refl _ _⟩
  case round =>
    obtain ⟨k, hk, rfl, hown, hnx⟩ := hrel
    by_cases hlt : k < len
    · have hcx : wr.cell? ⟨b, off + k, none⟩ = some (.int .i64 (zs.getD k 0)) := (hnx.cell (by exact hb)).trans (hc k (by omega))
      have hsz := hnx.size
      go_wp2_with (first
        | (at_builtin; refine wpList_append_own _ rfl _ _ 38 rfl w.heap.size 42 i0 _ 3 24 Try.underlying38 hi hz0 hz1 hz2 rfl (by decide) _ _ _ rfl (hown.alloc _) ⟨wr.heap.size, 0, none⟩ 1 1 [.int .i64 0, .int .i64 (zs.getD k 0), .int .i64 0] rfl rfl ?c1 ?c2 ?c3 ?c4 ?c5 ?_))
      case c1 =>
        intro j u hj
        rw [addr_add']
        have hb2 : j < 3 := by
          rcases Nat.lt_or_ge j 3 with h | h
          · exact h
          · rw [List.getElem?_eq_none (by simpa using h)] at hj; cases hj
        rw [World.cell?_alloc_at _ _ _ _ rfl]
        match j, hb2, hj with
        | 0, _, hj => simpa using hj
        | 1, _, hj => simpa [List.getD] using hj
        | 2, _, hj => simpa using hj
      case c2 => intro u hu; simp at hu; rcases hu with rfl | rfl | rfl <;> rfl
      case c3 => unfold maxLen; omega
      case c4 => omega
      case c5 => simp; omega
      intro v' w1 hown' hgrow _
      have R : w1.ownsRow w.heap.size 42 3 v' (k + 1) (pk (zs.take (k + 1))) := by
        rw [take_snoc zs k (by omega), pk_snoc]; exact hown'
      have B1 : Below w.heap.size w w1 := (hnx.alloc (by omega) _).grown hgrow (by simp; omega) (fun j hj => by have := (hown.lt j hj).1; omega)
      clear hown' hgrow hown hcx hnx
      go_wp2
      go_roundw
      case rel => exact ⟨k + 1, by omega, by simp, R, B1⟩
      case measure => simp [intOf]; omega
    · obtain rfl : len = k := by omega
      go_wp2
      go_ret
      exact ⟨_, rfl, hown, hnx⟩

set_option maxHeartbeats 1600000 in
set_option maxRecDepth 1000000 in
theorem picks19 (b off len cap : Nat) (zs : List Int) (w : World) (hlen : len ≤ 200) (hz : len ≤ zs.length) (hb : b < w.heap.size)
    (hc : ∀ j, j < zs.length → w.cell? ⟨b, off + j, none⟩ = some (.int .i64 (zs.getD j 0))) :
    Calls Try.prog 19 #[.slice (some ⟨b, off, none⟩) len cap] w (PickRes w len zs) := by
  obtain ⟨i0, hi, hz0, hz1, hz2⟩ := info_parts Try.info42
  go_enter Try.func19, Try.ntmps19
  go_wp2
  go_loopw [3, 8] (fun v i wr => ∃ k : Nat, k ≤ len ∧ i = .int .i64 k ∧ wr.ownsRow w.heap.size 42 3 v k (pk (zs.take k)) ∧ Below w.heap.size w wr)
    (fun _ i _ => len - (intOf i).toNat)
  case atStart => exact ⟨0, Nat.zero_le _, rfl, World.ownsRow_nil _ _ _ _, Below.refl _ _⟩
  case round =>
    obtain ⟨k, hk, rfl, hown, hnx⟩ := hrel
    by_cases hlt : k < len
    · have hcx : wr.cell? ⟨b, off + k, none⟩ = some (.int .i64 (zs.getD k 0)) := (hnx.cell (by exact hb)).trans (hc k (by omega))
      have hsz := hnx.size
      go_wp2_with (first
        | (at_builtin; refine wpList_append_own _ rfl _ _ 38 rfl w.heap.size 42 i0 _ 3 24 Try.underlying38 hi hz0 hz1 hz2 rfl (by decide) _ _ _ rfl (hown.alloc _) ⟨wr.heap.size, 0, none⟩ 1 1 [.int .i64 0, .int .i64 (zs.getD k 0), .int .i64 0] rfl rfl ?c1 ?c2 ?c3 ?c4 ?c5 ?_))
      case c1 =>
        intro j u hj
        rw [addr_add']
        have hb2 : j < 3 := by
          rcases Nat.lt_or_ge j 3 with h | h
          · exact h
          · rw [List.getElem?_eq_none (by simpa using h)] at hj; cases hj
        rw [World.cell?_alloc_at _ _ _ _ rfl]
        match j, hb2, hj with
        | 0, _, hj => simpa using hj
        | 1, _, hj => simpa [List.getD] using hj
        | 2, _, hj => simpa using hj
      case c2 => intro u hu; simp at hu; rcases hu with rfl | rfl | rfl <;> rfl
      case c3 => unfold maxLen; omega
      case c4 => omega
      case c5 => simp; omega
      intro v' w1 hown' hgrow _
      have R : w1.ownsRow w.heap.size 42 3 v' (k + 1) (pk (zs.take (k + 1))) := by
        rw [take_snoc zs k (by omega), pk_snoc]; exact hown'
      have B1 : Below w.heap.size w w1 := (hnx.alloc (by omega) _).grown hgrow (by simp; omega) (fun j hj => by have := (hown.lt j hj).1; omega)
      clear hown' hgrow hown hcx hnx
      go_wp2
      go_roundw
      case rel => exact ⟨k + 1, by omega, by simp, R, B1⟩
      case measure => simp [intOf]; omega
    · obtain rfl : len = k := by omega
      go_wp2
      go_ret
      exact ⟨_, rfl, hown, hnx⟩
end Go.Proofs.Ytiapphhldedckaa
