/- ActorNil, reckoned: whatever the world in which the library's table lies as its text lays it, the call returns true. -/
import Derived.Test.YtmnfphgobahleaaGreatDoorChecked
import Derived.Test.YtmnfphgobahleaaGreatDoorAETop
import Derived.Shelf.Spec.TrailingZeros
namespace Go.Proofs.YtmnfphgobahleaaGreatDoor
open Go Go.AE Go.RowKit
theorem mixed : Tryz.prog.follows .mixedOrders = true := by kernel_rfl
set_option maxHeartbeats 1000000 in
theorem tz_core (x k idx : Nat) (w : World) (hx0 : ((x : Int) == 0) = false)
    (key : IntKind.u64.wrap (bits BinOp.and IntKind.u64 (x : Int) (IntKind.u64.wrap (-(x : Int))) * 285870213051353865) / 288230376151711744 = (idx : Int))
    (hi : idx < 64) (hk : k < 64) (hcell : w.cell? ⟨0, idx, none⟩ = some (.int .u8 k)) :
    Calls Tryz.prog 192 #[.int .u64 x] w fun e w' => e = .returned (.int .i64 k) ∧ w' = w := by
  go_enter Tryz.func192, Tryz.ntmps192
  go_wp2_with (simp only [key])
  go_ret
  exact ⟨rfl, rfl⟩
theorem tz_zero (w : World) : Calls Tryz.prog 192 #[.int .u64 0] w fun e w' => e = .returned (.int .i64 64) ∧ w' = w := by
  go_enter Tryz.func192, Tryz.ntmps192
  go_wp2
  go_ret
  exact ⟨rfl, rfl⟩
theorem tz (x : Nat) (hx : x < 18446744073709551616) (w : World) (hT : TabAt 0 Lib.deBruijn64tab w) :
    Calls Tryz.prog 192 #[.int .u64 x] w fun e w' => e = .returned (.int .i64 (Lib.ctz 64 x)) ∧ w' = w := by
  by_cases hx0 : x = 0
  · subst hx0
    exact tz_zero w
  · obtain ⟨hlow, hk⟩ := Lib.lowest_bit 64 x hx0 hx
    obtain ⟨hi, htab⟩ := Lib.deBruijn64_at _ hk
    have hcell := hT _ hi
    rw [htab] at hcell
    exact tz_core x _ _ w (by simp; omega) (tz64_key x _ hx hx0 hlow) hi hk hcell
def S : Sums := fun f args m => match Nat.beq f 192, args with
  | true, [.int .u64 (.ofNat n)] => cond (Nat.blt n 18446744073709551616) (some [(.int .i64 (Lib.ctz 64 n), m)]) none
  | _, _ => none
theorem vrl_one {σ : Sg} {v : Value} {args' : Array Value} (h : VRL σ [v] args'.toList) : ∃ v', args' = #[v'] ∧ VR σ v v' := by
  obtain ⟨h1, h2⟩ := h
  obtain ⟨l⟩ := args'
  match l, h1 with
  | [v'], _ => exact ⟨v', rfl, by simpa using h2 0 (by simp)⟩
theorem S_ok (w0 : World) (hT : TabAt 0 Lib.deBruijn64tab w0) : SOK (mkEnv Tryz.prog) Tryz.prog w0 S := by
  intro f args m l h hne σ w args' hargs hM
  unfold S at h
  split at h
  · rename_i n hf
    obtain rfl : f = 192 := Nat.eq_of_beq_eq_true hf
    cases hn : Nat.blt n 18446744073709551616 with
    | false => rw [hn] at h; cases h
    | true =>
      rw [hn] at h
      cases h
      obtain ⟨v', rfl, hv⟩ := vrl_one hargs
      obtain rfl := hv.simple_inv rfl
      have hlt : n < 18446744073709551616 := by simpa [Nat.blt_eq] using hn
      have hT' : TabAt 0 Lib.deBruijn64tab w := fun j hj => (hM.below.cell (p := ⟨0, j, none⟩) (World.block_lt_of_cell? w0 _ (hT j hj))).trans (hT j hj)
      refine (tz n hlt w hT').mono ?_
      rintro e w' ⟨rfl, rfl⟩
      exact ⟨_, List.mem_singleton.2 rfl, σ, _, rfl, FG.refl _ _ _, .refl rfl, hM⟩
  · cases h
end Go.Proofs.YtmnfphgobahleaaGreatDoor
