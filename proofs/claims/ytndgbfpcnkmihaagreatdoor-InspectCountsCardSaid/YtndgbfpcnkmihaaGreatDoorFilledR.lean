/- How much the frames of a part take, for the document. -/
import Derived.Test.YtndgbfpcnkmihaaGreatDoorFilled
namespace Go.Proofs.YtndgbfpcnkmihaaGreatDoor
open Go Go.RowKit
set_option maxHeartbeats 3200000 in
set_option maxRecDepth 1000000 in
theorem filledR_some (b off cap : Nat) (l : Array Sn) (part : Int) (hsm : Small l) (hn : l.size ≤ 300) (w : World) (hb : b < w.heap.size) (hr : ReadsS w b off l) :
    Calls Tryz.prog 14 #[.slice (some ⟨b, off, none⟩) l.size cap, .int .i64 part] w fun e w' => e = .returned (.int .i64 (fil l part l.size : Nat)) ∧ Below w.heap.size w w' := by
  have HR := Lib.hid hr
  clear hr
  go_enter Tryz.func14, Tryz.ntmps14
  go_wp2
  go_loopw [5, 7, 10] (fun s p t wr => ∃ k : Nat, k ≤ l.size ∧ t = .int .i64 k ∧ s = .int .i64 (fil l part k : Nat) ∧ Hid (Below w.heap.size w wr)) (fun _ _ t _ => l.size - (intOf t).toNat)
  case atStart => exact ⟨0, Nat.zero_le _, rfl, rfl, Lib.hid (Below.refl _ _)⟩
  case round =>
    obtain ⟨k, hk, rfl, rfl, hbel⟩ := hrel
    by_cases hlt : k < l.size
    · obtain ⟨c0, c1, c2, c3, c4, c5, c6, c7, c8, c9, c10, c11⟩ := (HR.out.below hb hbel.out) k hlt
      obtain ⟨x, hx⟩ : ∃ x, l[k]! = x := ⟨_, rfl⟩
      rw [hx] at c0 c1 c2 c3 c4 c5 c6 c7 c8 c9 c10 c11
      have h1 : (k : Int) < (l.size : Int) := by omega
      have h2 : (0 : Int) ≤ (k : Int) := by omega
      obtain ⟨hl0, hl1⟩ := hsm k hlt
      have hz := sz_le l[k]!.len.natAbs (by omega)
      rw [hx] at hl0 hl1 hz
      have cS := fun w => sizeR_any x.len hl0 hl1 w
      obtain ⟨z, hzz⟩ : ∃ z, sz x.len.natAbs = z := ⟨_, rfl⟩
      obtain ⟨y, hy⟩ : ∃ y, (if x.len.natAbs < 32 then (-1 : Int) else (aln x.len.natAbs : Nat)) = y := ⟨_, rfl⟩
      have hyz : (y ≤ 0 ∧ z = 0) ∨ (0 < y ∧ y = (z : Int)) := by
        rw [← hy, ← hzz]; unfold sz aln; split
        · left; omega
        · right; omega
      rw [hy] at cS
      rw [hzz] at hz
      clear hy
      have h3 := fil_le l part hsm k hk
      obtain ⟨q, hq⟩ : ∃ q, fil l part k = q := ⟨_, rfl⟩
      rw [hq] at h3 ⊢
      have HX := Lib.hid (And.intro hx (And.intro hq hzz))
      clear hx hq hzz hl0 hl1
      by_cases hs : x.part = part
      · rcases hyz with ⟨hy0, rfl⟩ | ⟨hy0, rfl⟩
        · go_wp2_with (go_at_call 31; refine (cS _).mono ?_; clear cS; rintro e w2 ⟨rfl, hB2⟩; have HB2 := Lib.hid hB2; clear hB2)
          go_roundw
          case rel =>
            obtain ⟨e1, e2, e3⟩ := HX.out
            refine ⟨k + 1, by omega, by go_num, ?_, ?_⟩
            · rw [fil, e1, if_pos hs, e2, e3]; go_num
            · exact Lib.hid ((hbel.out.alloc hbel.out.size _).trans (HB2.out.mono (hbel.out.alloc hbel.out.size _).size))
          case measure => simp [intOf]; omega
        · go_wp2_with (go_at_call 31; refine (cS _).mono ?_; clear cS; rintro e w2 ⟨rfl, hB2⟩; have HB2 := Lib.hid hB2; clear hB2)
          go_roundw
          case rel =>
            obtain ⟨e1, e2, e3⟩ := HX.out
            refine ⟨k + 1, by omega, by go_num, ?_, ?_⟩
            · rw [fil, e1, if_pos hs, e2, e3]; go_num
            · exact Lib.hid ((hbel.out.alloc hbel.out.size _).trans (HB2.out.mono (hbel.out.alloc hbel.out.size _).size))
          case measure => simp [intOf]; omega
      · go_wp2
        go_roundw
        case rel =>
          obtain ⟨e1, e2, e3⟩ := HX.out
          refine ⟨k + 1, by omega, by go_num, ?_, ?_⟩
          · rw [fil, e1, if_neg hs, e2]
          · exact Lib.hid (hbel.out.alloc hbel.out.size _)
        case measure => simp [intOf]; omega
    · obtain rfl : k = l.size := by omega
      go_wp2
      go_ret
      exact ⟨rfl, hbel.out⟩
end Go.Proofs.YtndgbfpcnkmihaaGreatDoor
