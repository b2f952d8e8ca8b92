/- YtndgbfpcnkmihaaGreatDoorFilled; YtndgbfpcnkmihaaGreatDoorFilledR: in one text. -/
import Derived.Test.YtndgbfpcnkmihaaGreatDoorCount
/- How much the frames of a part take, for the program and for the document. -/
namespace Go.Proofs.YtndgbfpcnkmihaaGreatDoor
open Go Go.RowKit
theorem size_any (L : Int) (h0 : -2147483648 ≤ L) (h1 : L ≤ 2147483647) (w : World) : Calls Tryz.prog 32 #[.int .i32 L, .int .i64 1099511627776] w fun e w' => e = .returned (.int .i64 (sz L.natAbs : Nat)) ∧ w' = w := by
  rcases Int.lt_or_le L 0 with h | h
  · have := size_neg L.natAbs (by omega) (by omega) w
    rwa [show (-(L.natAbs : Int)) = L by omega] at this
  · have := size_pos L.natAbs (by omega) w
    rwa [show ((L.natAbs : Nat) : Int) = L by omega] at this
theorem sizeR_any (L : Int) (h0 : -2147483648 ≤ L) (h1 : L ≤ 2147483647) (w : World) : Calls Tryz.prog 31 #[.int .i32 L, .int .i64 1099511627776] w fun e w' => e = .returned (.int .i64 (if L.natAbs < 32 then -1 else (aln L.natAbs : Nat))) ∧ Below w.heap.size w w' := by
  rcases Int.lt_or_le L 0 with h | h
  · have := sizeR_neg L.natAbs (by omega) (by omega) w
    rwa [show (-(L.natAbs : Int)) = L by omega] at this
  · have := sizeR_pos L.natAbs (by omega) w
    rwa [show ((L.natAbs : Nat) : Int) = L by omega] at this
/-- what the frames of a part among the first k take -/
def fil (l : Array Sn) (part : Int) : Nat → Nat
  | 0 => 0
  | k + 1 => if l[k]!.part = part then fil l part k + sz l[k]!.len.natAbs else fil l part k
theorem sz_le (n : Nat) (hn : n ≤ 2147483648) : sz n ≤ 2147483648 := by unfold sz aln; split <;> omega
def Small (l : Array Sn) : Prop := ∀ j, j < l.size → -2147483648 ≤ l[j]!.len ∧ l[j]!.len ≤ 2147483647
theorem fil_le (l : Array Sn) (part : Int) (h : Small l) : ∀ k, k ≤ l.size → fil l part k ≤ k * 2147483648
  | 0, _ => Nat.le_refl _
  | k + 1, hk => by
    have h1 := fil_le l part h k (by omega)
    have h2 := h k (by omega)
    have h3 := sz_le l[k]!.len.natAbs (by omega)
    clear h h2
    rw [fil]
    generalize fil l part k = a at *
    generalize sz l[k]!.len.natAbs = c at *
    rw [Nat.add_mul]
    split
    · exact Nat.add_le_add h1 (by rw [Nat.one_mul]; exact h3)
    · exact Nat.le_trans h1 (Nat.le_add_right _ _)
set_option maxHeartbeats 3200000 in
set_option maxRecDepth 1000000 in
theorem filled_some (b off cap : Nat) (l : Array Sn) (part : Int) (hsm : Small l) (hn : l.size ≤ 300) (w : World) (hb : b < w.heap.size) (hr : ReadsS w b off l) :
    Calls Tryz.prog 13 #[.slice (some ⟨b, off, none⟩) l.size cap, .int .i64 part] w fun e w' => e = .returned (.int .i64 (fil l part l.size : Nat)) ∧ Below w.heap.size w w' := by
  have HR := Lib.hid hr
  clear hr
  go_enter Tryz.func13, Tryz.ntmps13
  go_wp2
  go_loopw [5, 7, 10] (fun s p t wr => ∃ k : Nat, k ≤ l.size ∧ t = .int .i64 k ∧ s = .int .i64 (fil l part k : Nat) ∧ Hid (Below w.heap.size w wr)) (fun _ _ t _ => l.size - (intOf t).toNat)
  case atStart => exact ⟨0, Nat.zero_le _, rfl, rfl, Lib.hid (Below.refl _ _)⟩
  case round =>
    obtain ⟨k, hk, rfl, rfl, hbel⟩ := hrel
    by_cases hlt : k < l.size
    · obtain ⟨c0, c1, c2, c3, c4, c5, c6, c7, c8, c9, c10, c11⟩ := (HR.out.below hb hbel.out) k hlt
      obtain ⟨x, hx⟩ : ∃ x, l[k]! = x := ⟨_, rfl⟩
      rw [hx] at c0 c1 c2 c3 c4 c5 c6 c7 c8 c9 c10 c11
      have h1 : (k : Int) < (l.size : Int) := by omega
      have h2 : (0 : Int) ≤ (k : Int) := by omega
      obtain ⟨hl0, hl1⟩ := hsm k hlt
      have hz := sz_le l[k]!.len.natAbs (by omega)
      rw [hx] at hl0 hl1 hz
      have cS := fun w => size_any x.len hl0 hl1 w
      obtain ⟨z, hzz⟩ : ∃ z, sz x.len.natAbs = z := ⟨_, rfl⟩
      rw [hzz] at cS hz
      have h3 := fil_le l part hsm k hk
      obtain ⟨q, hq⟩ : ∃ q, fil l part k = q := ⟨_, rfl⟩
      rw [hq] at h3 ⊢
      have HX := Lib.hid (And.intro hx (And.intro hq hzz))
      clear hx hq hzz hl0 hl1
      by_cases hs : x.part = part
      · go_wp2_with (go_at_call 32; refine (cS _).mono ?_; clear cS; rintro e w2 ⟨rfl, rfl⟩)
        go_roundw
        case rel =>
          obtain ⟨e1, e2, e3⟩ := HX.out
          refine ⟨k + 1, by omega, by go_num, ?_, ?_⟩
          · rw [fil, e1, if_pos hs, e2, e3]; go_num
          · exact Lib.hid (hbel.out.alloc hbel.out.size _)
        case measure => simp [intOf]; omega
      · go_wp2
        go_roundw
        case rel =>
          obtain ⟨e1, e2, e3⟩ := HX.out
          refine ⟨k + 1, by omega, by go_num, ?_, ?_⟩
          · rw [fil, e1, if_neg hs, e2]
          · exact Lib.hid (hbel.out.alloc hbel.out.size _)
        case measure => simp [intOf]; omega
    · obtain rfl : k = l.size := by omega
      go_wp2
      go_ret
      exact ⟨rfl, hbel.out⟩
end Go.Proofs.YtndgbfpcnkmihaaGreatDoor

/- How much the frames of a part take, for the document. -/
namespace Go.Proofs.YtndgbfpcnkmihaaGreatDoor
open Go Go.RowKit
set_option maxHeartbeats 3200000 in
set_option maxRecDepth 1000000 in
theorem filledR_some (b off cap : Nat) (l : Array Sn) (part : Int) (hsm : Small l) (hn : l.size ≤ 300) (w : World) (hb : b < w.heap.size) (hr : ReadsS w b off l) :
    Calls Tryz.prog 14 #[.slice (some ⟨b, off, none⟩) l.size cap, .int .i64 part] w fun e w' => e = .returned (.int .i64 (fil l part l.size : Nat)) ∧ Below w.heap.size w w' := by
  have HR := Lib.hid hr
  clear hr
  go_enter Tryz.func14, Tryz.ntmps14
  go_wp2
  go_loopw [5, 7, 10] (fun s p t wr => ∃ k : Nat, k ≤ l.size ∧ t = .int .i64 k ∧ s = .int .i64 (fil l part k : Nat) ∧ Hid (Below w.heap.size w wr)) (fun _ _ t _ => l.size - (intOf t).toNat)
  case atStart => exact ⟨0, Nat.zero_le _, rfl, rfl, Lib.hid (Below.refl _ _)⟩
  case round =>
    obtain ⟨k, hk, rfl, rfl, hbel⟩ := hrel
    by_cases hlt : k < l.size
    · obtain ⟨c0, c1, c2, c3, c4, c5, c6, c7, c8, c9, c10, c11⟩ := (HR.out.below hb hbel.out) k hlt
      obtain ⟨x, hx⟩ : ∃ x, l[k]! = x := ⟨_, rfl⟩
      rw [hx] at c0 c1 c2 c3 c4 c5 c6 c7 c8 c9 c10 c11
      have h1 : (k : Int) < (l.size : Int) := by omega
      have h2 : (0 : Int) ≤ (k : Int) := by omega
      obtain ⟨hl0, hl1⟩ := hsm k hlt
      have hz := sz_le l[k]!.len.natAbs (by omega)
      rw [hx] at hl0 hl1 hz
      have cS := fun w => sizeR_any x.len hl0 hl1 w
      obtain ⟨z, hzz⟩ : ∃ z, sz x.len.natAbs = z := ⟨_, rfl⟩
      obtain ⟨y, hy⟩ : ∃ y, (if x.len.natAbs < 32 then (-1 : Int) else (aln x.len.natAbs : Nat)) = y := ⟨_, rfl⟩
      have hyz : (y ≤ 0 ∧ z = 0) ∨ (0 < y ∧ y = (z : Int)) := by
        rw [← hy, ← hzz]; unfold sz aln; split
        · left; omega
        · right; omega
      rw [hy] at cS
      rw [hzz] at hz
      clear hy
      have h3 := fil_le l part hsm k hk
      obtain ⟨q, hq⟩ : ∃ q, fil l part k = q := ⟨_, rfl⟩
      rw [hq] at h3 ⊢
      have HX := Lib.hid (And.intro hx (And.intro hq hzz))
      clear hx hq hzz hl0 hl1
      by_cases hs : x.part = part
      · rcases hyz with ⟨hy0, rfl⟩ | ⟨hy0, rfl⟩
        · go_wp2_with (go_at_call 31; refine (cS _).mono ?_; clear cS; rintro e w2 ⟨rfl, hB2⟩; have HB2 := Lib.hid hB2; clear hB2)
          go_roundw
          case rel =>
            obtain ⟨e1, e2, e3⟩ := HX.out
            refine ⟨k + 1, by omega, by go_num, ?_, ?_⟩
            · rw [fil, e1, if_pos hs, e2, e3]; go_num
            · exact Lib.hid ((hbel.out.alloc hbel.out.size _).trans (HB2.out.mono (hbel.out.alloc hbel.out.size _).size))
          case measure => simp [intOf]; omega
        · go_wp2_with (go_at_call 31; refine (cS _).mono ?_; clear cS; rintro e w2 ⟨rfl, hB2⟩; have HB2 := Lib.hid hB2; clear hB2)
          go_roundw
          case rel =>
            obtain ⟨e1, e2, e3⟩ := HX.out
            refine ⟨k + 1, by omega, by go_num, ?_, ?_⟩
            · rw [fil, e1, if_pos hs, e2, e3]; go_num
            · exact Lib.hid ((hbel.out.alloc hbel.out.size _).trans (HB2.out.mono (hbel.out.alloc hbel.out.size _).size))
          case measure => simp [intOf]; omega
      · go_wp2
        go_roundw
        case rel =>
          obtain ⟨e1, e2, e3⟩ := HX.out
          refine ⟨k + 1, by omega, by go_num, ?_, ?_⟩
          · rw [fil, e1, if_neg hs, e2]
          · exact Lib.hid (hbel.out.alloc hbel.out.size _)
        case measure => simp [intOf]; omega
    · obtain rfl : k = l.size := by omega
      go_wp2
      go_ret
      exact ⟨rfl, hbel.out⟩
end Go.Proofs.YtndgbfpcnkmihaaGreatDoor
