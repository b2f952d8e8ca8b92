/- The law of watchers where too much is told, or the timeout is too great: it returns true. -/
import Derived.Test.YtlaogoehmndcjaaGreatDoorLwD
set_option linter.unusedVariables false
namespace Go.Proofs.YtlaogoehmndcjaaGreatDoor.Sy
open Go Go.RowKit Go.Lib Go.Base Go.Pr Go.Proofs.YtlaogoehmndcjaaGreatDoor.Ba
set_option maxRecDepth 1000000 in
set_option maxHeartbeats 1600000 in
theorem law_out (l : Lg) (timeout times : Int) (ga : Option Addr) (n cap : Nat) (ka : Option Addr) (kn kc : Nat) (h : n > 90 ∨ timeout < -1099511627776 ∨ timeout > 1099511627776) (w : World) (hTab : TabAt 0 Lib.deBruijn64tab w) :
    Calls Tryz.prog 4 #[l.val, .int .i64 timeout, .int .u8 times, .slice ga n cap, .slice ka kn kc] w fun e w' => e = .returned (.bool true) ∧ Below w.heap.size w w' := by
  obtain ⟨base, term, mtu, subs, ini, ses, str⟩ := l
  unfold Lg.val
  dsimp only
  obtain ⟨X, hX⟩ : ∃ X, w.heap.size = X := ⟨_, rfl⟩
  obtain ⟨W1, hW1⟩ : ∃ W1, w.alloc (.cells #[.int .i64 base, .int .i64 term, .int .i64 mtu, .int .i64 subs, .int .i32 ini, .int .i32 ses, .int .i32 str] 23) = W1 := ⟨_, rfl⟩
  have b1 : Below X w W1 := by rw [← hW1, ← hX]; exact (Below.refl _ _).alloc (Nat.le_refl _) _
  have hs1 : X ≤ W1.heap.size := by rw [← hX]; exact hX ▸ b1.size
  have hX1 : 1 ≤ X := by rw [← hX]; exact heap_one hTab
  have cF := fixed W1 (tabB hTab (b1.mono hX1))
  have H0 := Lib.hid (And.intro b1 hs1)
  clear b1 hTab hs1
  by_cases h1 : (n : Int) > 90
  · go_enter Tryz.func4, Tryz.ntmps4
    go_wp2_with (go_at_call 5; refine cF.mono ?_; clear cF; rintro e W2 ⟨rfl, hB⟩; have HB2 := Lib.hid hB; clear hB)
    go_ret
    exact ⟨rfl, hX ▸ (H0.out.1.trans (HB2.out.mono H0.out.2))⟩
  · by_cases h2 : timeout < -1099511627776
    · go_enter Tryz.func4, Tryz.ntmps4
      go_wp2_with (go_at_call 5; refine cF.mono ?_; clear cF; rintro e W2 ⟨rfl, hB⟩; have HB2 := Lib.hid hB; clear hB)
      go_ret
      exact ⟨rfl, hX ▸ (H0.out.1.trans (HB2.out.mono H0.out.2))⟩
    · have h3 : timeout > 1099511627776 := by omega
      go_enter Tryz.func4, Tryz.ntmps4
      go_wp2_with (go_at_call 5; refine cF.mono ?_; clear cF; rintro e W2 ⟨rfl, hB⟩; have HB2 := Lib.hid hB; clear hB)
      go_ret
      exact ⟨rfl, hX ▸ (H0.out.1.trans (HB2.out.mono H0.out.2))⟩
end Go.Proofs.YtlaogoehmndcjaaGreatDoor.Sy
