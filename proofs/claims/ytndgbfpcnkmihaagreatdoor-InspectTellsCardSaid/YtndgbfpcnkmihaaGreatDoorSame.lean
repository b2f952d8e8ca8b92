/- Two rows of frames, held against one another. -/
import Derived.Test.YtndgbfpcnkmihaaGreatDoorSy4
import Derived.Laws.StructEq
import Derived.Test.YtndgbfpcnkmihaaGreatDoorCount
import Derived.Deep.RegionHeld3
namespace Go.Proofs.YtndgbfpcnkmihaaGreatDoor.Sy
open Go Go.RowKit Go.AS
set_option maxRecDepth 100000
theorem eq40 (d : Nat) (a0 a1 a2 a3 a4 a5 a6 a7 a8 : Int) (w : World) : (Op.equalIn (d + 1 + 1) 40 (.agg #[.int .i32 a0, .int .u8 a1, .int .u8 a2, .int .u16 a3, .int .i32 a4, .int .i32 a5, .int .i32 a6, .int .i32 a7, .int .u64 a8]) (.agg #[.int .i32 a0, .int .u8 a1, .int .u8 a2, .int .u16 a3, .int .i32 a4, .int .i32 a5, .int .i32 a6, .int .i32 a7, .int .u64 a8])).run Tryz.prog w = .ok true w := by
  have u1 := Tryz.underlying21
  have u2 := Tryz.underlying5
  have u3 := Tryz.underlying38
  have u4 := Tryz.underlying27
  have b1 := Tryz.isAgg21
  have b2 := Tryz.isAgg5
  have b3 := Tryz.isAgg38
  have b4 := Tryz.isAgg27
  have hS : Tryz.prog.underlying 40 = some (.struct (Tryz.prog.fieldsOf 40)) := by kernel_rfl
  have hp : Tryz.prog.stoodInHeld 40 = false := by kernel_rfl
  rw [run_equalIn_agg w (d + 1) 40 _ _ hS hp]
  simp only [Program.fieldsOf, Tryz.underlying40]
  go_simp
theorem eq42 (p q a0 a1 a2 a3 a4 a5 a6 a7 a8 st : Int) (w : World) : (Op.equal 42 (.agg #[.int .i64 p, .int .i64 q, .int .i32 a0, .int .u8 a1, .int .u8 a2, .int .u16 a3, .int .i32 a4, .int .i32 a5, .int .i32 a6, .int .i32 a7, .int .u64 a8, .int .i64 st]) (.agg #[.int .i64 p, .int .i64 q, .int .i32 a0, .int .u8 a1, .int .u8 a2, .int .u16 a3, .int .i32 a4, .int .i32 a5, .int .i32 a6, .int .i32 a7, .int .u64 a8, .int .i64 st])).run Tryz.prog w = .ok true w := by
  have u1 := Tryz.underlying3
  have b1 := Tryz.isAgg3
  have b2 := Tryz.isAgg40
  have z2 := Tryz.sizeOf40
  have e40 := eq40 9997 a0 a1 a2 a3 a4 a5 a6 a7 a8
  have hS : Tryz.prog.underlying 42 = some (.struct (Tryz.prog.fieldsOf 42)) := by kernel_rfl
  have hp : Tryz.prog.stoodInHeld 42 = false := by kernel_rfl
  show (Op.equalIn 10000 42 _ _).run Tryz.prog w = _
  rw [show (10000 : Nat) = 9999 + 1 from rfl, run_equalIn_agg w 9999 42 _ _ hS hp]
  simp only [Program.fieldsOf, Tryz.underlying42]
  go_simp
theorem below_drewN {s : Nat} {x : World} (n : Nat) {w : World} (h : Below s x w) : Below s x (w.drewN n) := ⟨h.os, h.tape, h.output, h.size, h.block⟩
open Go.Proofs.YtndgbfpcnkmihaaGreatDoor in
set_option maxHeartbeats 3200000 in
set_option maxRecDepth 1000000 in
theorem same_some (b1 o1 c1 b2 o2 c2 : Nat) (l : Array Sn) (hn : l.size ≤ 300) (w : World) (h1 : b1 < w.heap.size) (h2 : b2 < w.heap.size) (r1 : ReadsS w b1 o1 l) (r2 : ReadsS w b2 o2 l) :
    Calls Tryz.prog 11 #[.slice (some ⟨b1, o1, none⟩) l.size c1, .slice (some ⟨b2, o2, none⟩) l.size c2] w fun e w' => e = .returned (.bool true) ∧ Below w.heap.size w w' := by
  have HR := Lib.hid (And.intro r1 r2)
  clear r1 r2
  have hne : ((l.size : Int) != (l.size : Int)) = false := by simp
  go_enter Tryz.func11, Tryz.ntmps11
  go_wp2
  go_loopw [5, 13] (fun s t wr => ∃ k : Nat, k ≤ l.size ∧ t = .int .i64 k ∧ Hid (Below w.heap.size w wr)) (fun _ t _ => l.size - (intOf t).toNat)
  case atStart => exact ⟨0, Nat.zero_le _, rfl, Lib.hid (Below.refl _ _)⟩
  case round =>
    obtain ⟨k, hk, rfl, hbel⟩ := hrel
    by_cases hlt : k < l.size
    · obtain ⟨c0, c1, c2, c3, c4, c5, c6, c7, c8, c9, c10, c11⟩ := (HR.out.1.below h1 hbel.out) k hlt
      obtain ⟨d0, d1, d2, d3, d4, d5, d6, d7, d8, d9, d10, d11⟩ := (HR.out.2.below h2 hbel.out) k hlt
      obtain ⟨x, hx⟩ : ∃ x, l[k]! = x := ⟨_, rfl⟩
      rw [hx] at c0 c1 c2 c3 c4 c5 c6 c7 c8 c9 c10 c11 d0 d1 d2 d3 d4 d5 d6 d7 d8 d9 d10 d11
      have h3 : (k : Int) < (l.size : Int) := by omega
      have h4 : (0 : Int) ≤ (k : Int) := by omega
      have he := fun W => eq42 x.part x.off x.len x.r3 x.r4 x.r5 x.r6 x.r7 x.r8 x.r9 x.r10 x.state W
      have hg : Tryz.prog.eqGuardType Tryz.prog.depth 42 = false := by kernel_rfl
      go_wp2
      go_quiet (fail)
      go_wp2
      go_roundw
      case rel => exact ⟨k + 1, by omega, by go_num, Lib.hid (below_drewN _ hbel.out)⟩
      case measure => simp [intOf]; omega
    · obtain rfl : k = l.size := by omega
      go_wp2
      go_ret
      exact ⟨rfl, hbel.out⟩
end Go.Proofs.YtndgbfpcnkmihaaGreatDoor.Sy
