/- Where a log stands: the document's reckoning. -/
import Derived.Test.YtndgbfpcnkmihaaGreatDoorMeta3
namespace Go.Proofs.YtndgbfpcnkmihaaGreatDoor.Ba
open Go Go.RowKit Go.Lib Go.Base
set_option maxHeartbeats 3200000 in
set_option maxRecDepth 1000000 in
theorem isTermR_any (n : Int) (w : World) : Calls Tryz.prog 87 #[.int .i64 n] w fun e w' => e = .returned (.bool (decide (TermOk n))) ∧ w' = w := by
  by_cases h : TermOk n
  · rw [decide_eq_true h]
    rcases h with rfl | rfl | rfl | rfl | rfl | rfl
    all_goals go_enter Tryz.func87, Tryz.ntmps87
    all_goals go_wp2
    all_goals refine wp_loop_rounds 7 ?_
    all_goals (iterate 8 (try rw [rounds_succ]; go_wp2))
    all_goals go_ret
    all_goals exact ⟨rfl, rfl⟩
  · rw [decide_eq_false h]
    have h1 : ¬ (256 : Int) = n := fun e => h (by unfold TermOk; omega)
    have h2 : ¬ (512 : Int) = n := fun e => h (by unfold TermOk; omega)
    have h3 : ¬ (1024 : Int) = n := fun e => h (by unfold TermOk; omega)
    have h4 : ¬ (2048 : Int) = n := fun e => h (by unfold TermOk; omega)
    have h5 : ¬ (4096 : Int) = n := fun e => h (by unfold TermOk; omega)
    have h6 : ¬ (8192 : Int) = n := fun e => h (by unfold TermOk; omega)
    go_enter Tryz.func87, Tryz.ntmps87
    go_wp2
    refine wp_loop_rounds 7 ?_
    iterate 8 (try rw [rounds_succ]; go_wp2)
    go_ret
    exact ⟨rfl, rfl⟩
end Go.Proofs.YtndgbfpcnkmihaaGreatDoor.Ba
