/- ClientNil, reckoned in the kernel: the loop's end is known; then fixed() is known. -/
import Derived.Test.YtlcecnhdehdneaaGreatLpTop
namespace Go.Proofs.YtlcecnhdehdneaaGreat
open Go Go.AE Go.RowKit
/-- a function that answers one thing and leaves what stood -/
noncomputable def factS (f : FuncId) (v : Value) : Sums := fun g args m =>
  match Nat.beq f g, args with
  | true, [] => some [(v, m)]
  | _, _ => none
theorem factS_ok {E : Env} {P : Program} {f : FuncId} {v : Value} (hv : simple v = true) (h : ∀ w, Calls P f #[] w fun e w' => e = .returned v ∧ Below w.heap.size w w') (w0 : World) : SOK E P w0 (factS f v) := by
  intro g args m l hl _ σ w args' hargs hM
  unfold factS at hl
  split at hl
  · rename_i hg
    obtain rfl := Nat.eq_of_beq_eq_true hg
    cases hl
    have ha : args' = #[] := by
      have := hargs.1
      simp at this
      exact Array.eq_empty_of_size_eq_zero this.symm
    subst ha
    refine (h w).mono ?_
    rintro e w' ⟨rfl, hB⟩
    refine ⟨(v, m), List.mem_singleton.2 rfl, σ, v, rfl, ⟨Ext.refl σ, hB.size, fun b hb _ => hB.block b hb, fun b hb => .inl hb, Nat.le_refl _, fun _ _ => rfl⟩, .refl hv, ⟨hM.below.trans (hB.mono hM.below.size), fun q ob hq hl => ?_, hM.inj, hM.fresh⟩⟩
    obtain ⟨z, ob', h1, h2, h3, h4⟩ := hM.obj q ob hq hl
    exact ⟨z, ob', h1, h2, (hB.block z.b (Array.getElem?_eq_some_iff.1 h3).1).trans h3, h4⟩
  · cases hl
set_option maxRecDepth 1000000
theorem fixed_runs : isTrue (evCallF (mkEnvL Tryz.prog) YtlcecnhdehdneaaGreatL.robS 20000 60 (.fn 4) [] ⟨0, .nil⟩) = true := by kernel_rfl
theorem fixed (w : World) : Calls Tryz.prog 4 #[] w fun e w' => e = .returned (.bool true) ∧ Below w.heap.size w w' :=
  ae_fast_with YtlcecnhdehdneaaGreatL.mixed (VRL.nil _) fixed_runs w (YtlcecnhdehdneaaGreatL.robS_ok w)
theorem runs : isTrue (evCallF (mkEnvL Tryz.prog) (factS 4 (.bool true)) 2000 60 (.fn 3) [.agg #[topI .u64, topB, topS]] ⟨0, .nil⟩) = true := by kernel_rfl
theorem key_args (n : Int) (t : Bool) (p : Option Addr) (l cp : Nat) : VRL (fun _ => none) [.agg #[topI .u64, topB, topS]] (#[.agg #[.int .u64 n, .bool t, .slice p l cp]] : Array Value).toList := by
  refine .cons (.agg rfl fun i hi => ?_) (.nil _)
  match i, hi with
  | 0, _ => exact .topI _ _
  | 1, _ => exact .topB _
  | 2, _ => exact .topS _ _ _
theorem walk (n : Int) (t : Bool) (p : Option Addr) (l cp : Nat) (W : World) : Calls Tryz.prog 3 #[.agg #[.int .u64 n, .bool t, .slice p l cp]] W fun e w' => e = .returned (.bool true) ∧ Below W.heap.size W w' :=
  ae_fast_with YtlcecnhdehdneaaGreatL.mixed (key_args n t p l cp) runs W (factS_ok rfl fixed W)
end Go.Proofs.YtlcecnhdehdneaaGreat
