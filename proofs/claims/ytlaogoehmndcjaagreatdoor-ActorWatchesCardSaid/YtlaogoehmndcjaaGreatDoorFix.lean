/- The fixed facts, evaluated. -/
import Derived.Test.YtlaogoehmndcjaaGreatDoorTerm
import Derived.Test.YtlaogoehmndcjaaGreatDoorEvC
set_option linter.unusedVariables false
namespace Go.Proofs.YtlaogoehmndcjaaGreatDoor.Sy
open Go Go.AS Go.RowKit Go.Proofs.YtlaogoehmndcjaaGreatDoor.Ba
theorem tz_zero (w : World) : Calls Tryz.prog 231 #[.int .u64 0] w fun e w' => e = .returned (.int .i64 64) ∧ w' = w := by
  go_enter Tryz.func231, Tryz.ntmps231
  go_wp2
  go_ret
  exact ⟨rfl, rfl⟩
theorem tz_all (x : Nat) (hx : x < 18446744073709551616) (w : World) (hT : TabAt 0 Lib.deBruijn64tab w) :
    Calls Tryz.prog 231 #[.int .u64 x] w fun e w' => e = .returned (.int .i64 (Lib.ctz 64 x)) ∧ w' = w := by
  by_cases hx0 : x = 0
  · subst hx0
    exact tz_zero w
  · exact tz x hx0 hx w hT
def tzS : Sums := fun f args m => match Nat.beq f 231, args with
  | true, [.int .u64 (.ofNat n)] => cond (Nat.blt n 18446744073709551616) (some [(.int .i64 (Lib.ctz 64 n), m)]) none
  | _, _ => none
section
variable [Rho]
theorem vrl_one {σ : Sg} {v : Value} {args' : Array Value} (h : VRL σ [v] args'.toList) : ∃ v', args' = #[v'] ∧ VR σ v v' := by
  obtain ⟨h1, h2⟩ := h
  obtain ⟨l⟩ := args'
  match l, h1 with
  | [v'], _ => exact ⟨v', rfl, by simpa using h2 0 (by simp)⟩
theorem tzS_ok {fs ts : List Nat} {Tw : World → Prop} (w0 : World) (hT : TabAt 0 Lib.deBruijn64tab w0) : SOK (mkEnvS Tryz.prog fs ts [] Tw) Tryz.prog w0 tzS := by
  intro f args m l h hne σ w args' hargs hM
  unfold tzS at h
  split at h
  · rename_i n hf
    obtain rfl : f = 231 := Nat.eq_of_beq_eq_true hf
    cases hn : Nat.blt n 18446744073709551616 with
    | false => rw [hn] at h; cases h
    | true =>
      rw [hn] at h
      cases h
      obtain ⟨v', rfl, hv⟩ := vrl_one hargs
      obtain rfl := hv.simple_inv rfl
      have hlt : n < 18446744073709551616 := by simpa [Nat.blt_eq] using hn
      have hT' : TabAt 0 Lib.deBruijn64tab w := fun j hj => (hM.below.cell (p := ⟨0, j, none⟩) (World.block_lt_of_cell? w0 _ (hT j hj))).trans (hT j hj)
      refine (tz_all n hlt w hT').mono ?_
      rintro e w' ⟨rfl, rfl⟩
      exact ⟨_, List.mem_singleton.2 rfl, σ, _, rfl, FG.refl _ _ _, .refl rfl, hM⟩
  · cases h
end
def tzT : World → Prop := fun W => TabAt 0 Lib.deBruijn64tab W
set_option maxRecDepth 10000000 in
theorem fixR : outS 0 (evCall (mkEnvS Tryz.prog (List.range 296) (List.range 310) [] tzT) tzS (nat_lit 20000) (nat_lit 60) (.fn (nat_lit 5)) [] (memA [])) [] = [(.bool true, true, [])] := by kernel_rfl
theorem fixed (w : World) (hT : TabAt 0 Lib.deBruijn64tab w) : Calls Tryz.prog 5 #[] w fun e w' => e = .returned (.bool true) ∧ Below w.heap.size w w' :=
  runPureS (Tw := tzT) (n := 0) mixed (fun _ => .bool true) rfl (letI : Rho := ⟨fun _ => .bool true⟩; allR_nil) (letI : Rho := ⟨fun _ => .bool true⟩; fun w0 h => tzS_ok w0 (h w0 (Below.refl _ _))) rfl rfl fixR rfl rfl w (fun w' hb => fun j hj => (hb.cell (p := ⟨0, j, none⟩) (World.block_lt_of_cell? w _ (hT j hj))).trans (hT j hj))
end Go.Proofs.YtlaogoehmndcjaaGreatDoor.Sy
