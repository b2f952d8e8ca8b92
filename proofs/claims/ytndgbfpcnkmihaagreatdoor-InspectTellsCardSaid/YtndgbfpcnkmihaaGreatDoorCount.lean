/- How many frames have a state. -/
import Derived.Test.YtndgbfpcnkmihaaGreatDoorSize2
namespace Go.Proofs.YtndgbfpcnkmihaaGreatDoor
open Go Go.RowKit
/-- a frame that was seen: its part, its length, its state, and what else stands there -/
structure Sn where
  part : Int
  off : Int
  len : Int
  r3 : Int
  r4 : Int
  r5 : Int
  r6 : Int
  r7 : Int
  r8 : Int
  r9 : Int
  r10 : Int
  state : Int
instance : Inhabited Sn := ⟨⟨0, 0, 0, 0, 0, 0, 0, 0, 0, 0, 0, 0⟩⟩
def ReadsS (w : World) (b off : Nat) (l : Array Sn) : Prop := ∀ j, j < l.size →
  w.cell? ⟨b, off + j * 12, none⟩ = some (.int .i64 l[j]!.part) ∧ w.cell? ⟨b, off + j * 12 + 1, none⟩ = some (.int .i64 l[j]!.off) ∧
  w.cell? ⟨b, off + j * 12 + 2, none⟩ = some (.int .i32 l[j]!.len) ∧ w.cell? ⟨b, off + j * 12 + 3, none⟩ = some (.int .u8 l[j]!.r3) ∧
  w.cell? ⟨b, off + j * 12 + 4, none⟩ = some (.int .u8 l[j]!.r4) ∧ w.cell? ⟨b, off + j * 12 + 5, none⟩ = some (.int .u16 l[j]!.r5) ∧
  w.cell? ⟨b, off + j * 12 + 6, none⟩ = some (.int .i32 l[j]!.r6) ∧ w.cell? ⟨b, off + j * 12 + 7, none⟩ = some (.int .i32 l[j]!.r7) ∧
  w.cell? ⟨b, off + j * 12 + 8, none⟩ = some (.int .i32 l[j]!.r8) ∧ w.cell? ⟨b, off + j * 12 + 9, none⟩ = some (.int .i32 l[j]!.r9) ∧
  w.cell? ⟨b, off + j * 12 + 10, none⟩ = some (.int .u64 l[j]!.r10) ∧ w.cell? ⟨b, off + j * 12 + 11, none⟩ = some (.int .i64 l[j]!.state)
theorem ReadsS.below {w w' : World} {b off : Nat} {l : Array Sn} (h : ReadsS w b off l) (hl : b < w.heap.size) (hb : Below w.heap.size w w') : ReadsS w' b off l := by
  intro j hj
  obtain ⟨h0, h1, h2, h3, h4, h5, h6, h7, h8, h9, h10, h11⟩ := h j hj
  exact ⟨(hb.cell (p := ⟨b, off + j * 12, none⟩) hl).trans h0, (hb.cell (p := ⟨b, off + j * 12 + 1, none⟩) hl).trans h1, (hb.cell (p := ⟨b, off + j * 12 + 2, none⟩) hl).trans h2,
    (hb.cell (p := ⟨b, off + j * 12 + 3, none⟩) hl).trans h3, (hb.cell (p := ⟨b, off + j * 12 + 4, none⟩) hl).trans h4, (hb.cell (p := ⟨b, off + j * 12 + 5, none⟩) hl).trans h5,
    (hb.cell (p := ⟨b, off + j * 12 + 6, none⟩) hl).trans h6, (hb.cell (p := ⟨b, off + j * 12 + 7, none⟩) hl).trans h7, (hb.cell (p := ⟨b, off + j * 12 + 8, none⟩) hl).trans h8,
    (hb.cell (p := ⟨b, off + j * 12 + 9, none⟩) hl).trans h9, (hb.cell (p := ⟨b, off + j * 12 + 10, none⟩) hl).trans h10, (hb.cell (p := ⟨b, off + j * 12 + 11, none⟩) hl).trans h11⟩
/-- how many of the first k have a state -/
def cntS (l : Array Sn) (st : Int) : Nat → Nat
  | 0 => 0
  | k + 1 => if l[k]!.state = st then cntS l st k + 1 else cntS l st k
theorem cntS_le (l : Array Sn) (st : Int) : ∀ k, cntS l st k ≤ k
  | 0 => Nat.le_refl _
  | k + 1 => by have := cntS_le l st k; unfold cntS; split <;> omega
set_option maxHeartbeats 3200000 in
set_option maxRecDepth 1000000 in
theorem count_some (b off cap : Nat) (l : Array Sn) (st : Int) (hn : l.size ≤ 300) (w : World) (hb : b < w.heap.size) (hr : ReadsS w b off l) :
    Calls Tryz.prog 12 #[.slice (some ⟨b, off, none⟩) l.size cap, .int .i64 st] w fun e w' => e = .returned (.int .i64 (cntS l st l.size : Nat)) ∧ Below w.heap.size w w' := by
  have HR := Lib.hid hr
  clear hr
  go_enter Tryz.func12, Tryz.ntmps12
  go_wp2
  go_loopw [5, 7, 10] (fun s p t wr => ∃ k : Nat, k ≤ l.size ∧ t = .int .i64 k ∧ s = .int .i64 (cntS l st k : Nat) ∧ Hid (Below w.heap.size w wr)) (fun _ _ t _ => l.size - (intOf t).toNat)
  case atStart => exact ⟨0, Nat.zero_le _, rfl, rfl, Lib.hid (Below.refl _ _)⟩
  case round =>
    obtain ⟨k, hk, rfl, rfl, hbel⟩ := hrel
    by_cases hlt : k < l.size
    · obtain ⟨c0, c1, c2, c3, c4, c5, c6, c7, c8, c9, c10, c11⟩ := (HR.out.below hb hbel.out) k hlt
      obtain ⟨x, hx⟩ : ∃ x, l[k]! = x := ⟨_, rfl⟩
      rw [hx] at c0 c1 c2 c3 c4 c5 c6 c7 c8 c9 c10 c11
      have h1 : (k : Int) < (l.size : Int) := by omega
      have h2 : (0 : Int) ≤ (k : Int) := by omega
      have h3 := cntS_le l st k
      obtain ⟨q, hq⟩ : ∃ q, cntS l st k = q := ⟨_, rfl⟩
      rw [hq] at h3 ⊢
      have HX := Lib.hid (And.intro hx hq)
      clear hx hq
      by_cases hs : x.state = st
      · go_wp2
        go_roundw
        case rel =>
          obtain ⟨e1, e2⟩ := HX.out
          refine ⟨k + 1, by omega, by go_num, ?_, ?_⟩
          · rw [cntS, e1, if_pos hs, e2]; go_num
          · exact Lib.hid (hbel.out.alloc hbel.out.size _)
        case measure => simp [intOf]; omega
      · go_wp2
        go_roundw
        case rel =>
          obtain ⟨e1, e2⟩ := HX.out
          refine ⟨k + 1, by omega, by go_num, ?_, ?_⟩
          · rw [cntS, e1, if_neg hs, e2]
          · exact Lib.hid (hbel.out.alloc hbel.out.size _)
        case measure => simp [intOf]; omega
    · obtain rfl : k = l.size := by omega
      go_wp2
      go_ret
      exact ⟨rfl, hbel.out⟩
end Go.Proofs.YtndgbfpcnkmihaaGreatDoor
