/- Printed by a program of mine: the loop, whole. -/
import Derived.Test.YtlcecnhdehdneaaGreatLp1
import Derived.Test.YtlcecnhdehdneaaGreatLp2
import Derived.Test.YtlcecnhdehdneaaGreatLp3
import Derived.Test.YtlcecnhdehdneaaGreatLp4
import Derived.Test.YtlcecnhdehdneaaGreatLp5
import Derived.Test.YtlcecnhdehdneaaGreatLp6
import Derived.Test.YtlcecnhdehdneaaGreatLp7
import Derived.Test.YtlcecnhdehdneaaGreatLp8
import Derived.Test.YtlcecnhdehdneaaGreatLp9
import Derived.Test.YtlcecnhdehdneaaGreatLp10
import Derived.Test.YtlcecnhdehdneaaGreatLp11
import Derived.Test.YtlcecnhdehdneaaGreatLp12
import Derived.Test.YtlcecnhdehdneaaGreatLp13
import Derived.Test.YtlcecnhdehdneaaGreatLp14
import Derived.Test.YtlcecnhdehdneaaGreatLp15
namespace YtlcecnhdehdneaaGreatL
open Go Go.AE Go.RowKit Go.Proofs
theorem mixed : Tryz.prog.follows .mixedOrders = true := by kernel_rfl
theorem call_ok (w0 : World) : CallOK EC Tryz.prog w0 callC := by
  unfold callC
  rw [evCallF_eq]
  exact evCall_ok (mkEnvL_ok _) mixed (noSums_ok _ _ _) 20000 60
theorem n0 : noneFrom kt0 49 := noneFrom_ofList (by kernel_rfl)
theorem n1 : noneFrom kt1 49 := noneFrom_ofList (by kernel_rfl)
theorem n2 : noneFrom kt2 49 := noneFrom_ofList (by kernel_rfl)
theorem n3 : noneFrom kt3 49 := noneFrom_ofList (by kernel_rfl)
theorem n4 : noneFrom kt4 49 := noneFrom_ofList (by kernel_rfl)
theorem n5 : noneFrom kt5 49 := noneFrom_ofList (by kernel_rfl)
theorem n6 : noneFrom kt6 49 := noneFrom_ofList (by kernel_rfl)
theorem n7 : noneFrom kt7 49 := noneFrom_ofList (by kernel_rfl)
theorem n8 : noneFrom kt8 49 := noneFrom_ofList (by kernel_rfl)
theorem n9 : noneFrom kt9 49 := noneFrom_ofList (by kernel_rfl)
theorem n10 : noneFrom kt10 49 := noneFrom_ofList (by kernel_rfl)
theorem n11 : noneFrom kt11 49 := noneFrom_ofList (by kernel_rfl)
theorem n12 : noneFrom kt12 49 := noneFrom_ofList (by kernel_rfl)
theorem n13 : noneFrom kt13 49 := noneFrom_ofList (by kernel_rfl)
theorem n14 : noneFrom kt14 49 := noneFrom_ofList (by kernel_rfl)
theorem n15 : noneFrom kt15 49 := noneFrom_ofList (by kernel_rfl)
theorem n16 : noneFrom kt16 49 := noneFrom_ofList (by kernel_rfl)
theorem n17 : noneFrom kt17 49 := noneFrom_ofList (by kernel_rfl)
theorem n18 : noneFrom kt18 49 := noneFrom_ofList (by kernel_rfl)
theorem n19 : noneFrom kt19 49 := noneFrom_ofList (by kernel_rfl)
theorem n20 : noneFrom kt20 49 := noneFrom_ofList (by kernel_rfl)
theorem n21 : noneFrom kt21 49 := noneFrom_ofList (by kernel_rfl)
theorem n22 : noneFrom kt22 49 := noneFrom_ofList (by kernel_rfl)
theorem n23 : noneFrom kt23 49 := noneFrom_ofList (by kernel_rfl)
theorem n24 : noneFrom kt24 49 := noneFrom_ofList (by kernel_rfl)
theorem n25 : noneFrom kt25 49 := noneFrom_ofList (by kernel_rfl)
theorem n26 : noneFrom kt26 49 := noneFrom_ofList (by kernel_rfl)
theorem n27 : noneFrom kt27 49 := noneFrom_ofList (by kernel_rfl)
theorem n28 : noneFrom kt28 49 := noneFrom_ofList (by kernel_rfl)
theorem n29 : noneFrom kt29 49 := noneFrom_ofList (by kernel_rfl)
theorem nE : noneFrom ktE 49 := noneFrom_ofList (by kernel_rfl)
theorem g29 (w0 : World) (n : Nat) : LG EC Tryz.prog w0 49 n robC [((.exit 0), ktE, kME)] kt29 kM29 := LG.lastly (mkEnvL_ok _) mixed (call_ok w0) cE nE
theorem g28 (w0 : World) (n : Nat) : LG EC Tryz.prog w0 49 n robC [((.exit 0), ktE, kME)] kt28 kM28 := LG.chunk (mkEnvL_ok _) mixed (call_ok w0) c28 n29 (g29 w0 n)
theorem g27 (w0 : World) (n : Nat) : LG EC Tryz.prog w0 49 n robC [((.exit 0), ktE, kME)] kt27 kM27 := LG.chunk (mkEnvL_ok _) mixed (call_ok w0) c27 n28 (g28 w0 n)
theorem g26 (w0 : World) (n : Nat) : LG EC Tryz.prog w0 49 n robC [((.exit 0), ktE, kME)] kt26 kM26 := LG.chunk (mkEnvL_ok _) mixed (call_ok w0) c26 n27 (g27 w0 n)
theorem g25 (w0 : World) (n : Nat) : LG EC Tryz.prog w0 49 n robC [((.exit 0), ktE, kME)] kt25 kM25 := LG.chunk (mkEnvL_ok _) mixed (call_ok w0) c25 n26 (g26 w0 n)
theorem g24 (w0 : World) (n : Nat) : LG EC Tryz.prog w0 49 n robC [((.exit 0), ktE, kME)] kt24 kM24 := LG.chunk (mkEnvL_ok _) mixed (call_ok w0) c24 n25 (g25 w0 n)
theorem g23 (w0 : World) (n : Nat) : LG EC Tryz.prog w0 49 n robC [((.exit 0), ktE, kME)] kt23 kM23 := LG.chunk (mkEnvL_ok _) mixed (call_ok w0) c23 n24 (g24 w0 n)
theorem g22 (w0 : World) (n : Nat) : LG EC Tryz.prog w0 49 n robC [((.exit 0), ktE, kME)] kt22 kM22 := LG.chunk (mkEnvL_ok _) mixed (call_ok w0) c22 n23 (g23 w0 n)
theorem g21 (w0 : World) (n : Nat) : LG EC Tryz.prog w0 49 n robC [((.exit 0), ktE, kME)] kt21 kM21 := LG.chunk (mkEnvL_ok _) mixed (call_ok w0) c21 n22 (g22 w0 n)
theorem g20 (w0 : World) (n : Nat) : LG EC Tryz.prog w0 49 n robC [((.exit 0), ktE, kME)] kt20 kM20 := LG.chunk (mkEnvL_ok _) mixed (call_ok w0) c20 n21 (g21 w0 n)
theorem g19 (w0 : World) (n : Nat) : LG EC Tryz.prog w0 49 n robC [((.exit 0), ktE, kME)] kt19 kM19 := LG.chunk (mkEnvL_ok _) mixed (call_ok w0) c19 n20 (g20 w0 n)
theorem g18 (w0 : World) (n : Nat) : LG EC Tryz.prog w0 49 n robC [((.exit 0), ktE, kME)] kt18 kM18 := LG.chunk (mkEnvL_ok _) mixed (call_ok w0) c18 n19 (g19 w0 n)
theorem g17 (w0 : World) (n : Nat) : LG EC Tryz.prog w0 49 n robC [((.exit 0), ktE, kME)] kt17 kM17 := LG.chunk (mkEnvL_ok _) mixed (call_ok w0) c17 n18 (g18 w0 n)
theorem g16 (w0 : World) (n : Nat) : LG EC Tryz.prog w0 49 n robC [((.exit 0), ktE, kME)] kt16 kM16 := LG.chunk (mkEnvL_ok _) mixed (call_ok w0) c16 n17 (g17 w0 n)
theorem g15 (w0 : World) (n : Nat) : LG EC Tryz.prog w0 49 n robC [((.exit 0), ktE, kME)] kt15 kM15 := LG.chunk (mkEnvL_ok _) mixed (call_ok w0) c15 n16 (g16 w0 n)
theorem g14 (w0 : World) (n : Nat) : LG EC Tryz.prog w0 49 n robC [((.exit 0), ktE, kME)] kt14 kM14 := LG.chunk (mkEnvL_ok _) mixed (call_ok w0) c14 n15 (g15 w0 n)
theorem g13 (w0 : World) (n : Nat) : LG EC Tryz.prog w0 49 n robC [((.exit 0), ktE, kME)] kt13 kM13 := LG.chunk (mkEnvL_ok _) mixed (call_ok w0) c13 n14 (g14 w0 n)
theorem g12 (w0 : World) (n : Nat) : LG EC Tryz.prog w0 49 n robC [((.exit 0), ktE, kME)] kt12 kM12 := LG.chunk (mkEnvL_ok _) mixed (call_ok w0) c12 n13 (g13 w0 n)
theorem g11 (w0 : World) (n : Nat) : LG EC Tryz.prog w0 49 n robC [((.exit 0), ktE, kME)] kt11 kM11 := LG.chunk (mkEnvL_ok _) mixed (call_ok w0) c11 n12 (g12 w0 n)
theorem g10 (w0 : World) (n : Nat) : LG EC Tryz.prog w0 49 n robC [((.exit 0), ktE, kME)] kt10 kM10 := LG.chunk (mkEnvL_ok _) mixed (call_ok w0) c10 n11 (g11 w0 n)
theorem g9 (w0 : World) (n : Nat) : LG EC Tryz.prog w0 49 n robC [((.exit 0), ktE, kME)] kt9 kM9 := LG.chunk (mkEnvL_ok _) mixed (call_ok w0) c9 n10 (g10 w0 n)
theorem g8 (w0 : World) (n : Nat) : LG EC Tryz.prog w0 49 n robC [((.exit 0), ktE, kME)] kt8 kM8 := LG.chunk (mkEnvL_ok _) mixed (call_ok w0) c8 n9 (g9 w0 n)
theorem g7 (w0 : World) (n : Nat) : LG EC Tryz.prog w0 49 n robC [((.exit 0), ktE, kME)] kt7 kM7 := LG.chunk (mkEnvL_ok _) mixed (call_ok w0) c7 n8 (g8 w0 n)
theorem g6 (w0 : World) (n : Nat) : LG EC Tryz.prog w0 49 n robC [((.exit 0), ktE, kME)] kt6 kM6 := LG.chunk (mkEnvL_ok _) mixed (call_ok w0) c6 n7 (g7 w0 n)
theorem g5 (w0 : World) (n : Nat) : LG EC Tryz.prog w0 49 n robC [((.exit 0), ktE, kME)] kt5 kM5 := LG.chunk (mkEnvL_ok _) mixed (call_ok w0) c5 n6 (g6 w0 n)
theorem g4 (w0 : World) (n : Nat) : LG EC Tryz.prog w0 49 n robC [((.exit 0), ktE, kME)] kt4 kM4 := LG.chunk (mkEnvL_ok _) mixed (call_ok w0) c4 n5 (g5 w0 n)
theorem g3 (w0 : World) (n : Nat) : LG EC Tryz.prog w0 49 n robC [((.exit 0), ktE, kME)] kt3 kM3 := LG.chunk (mkEnvL_ok _) mixed (call_ok w0) c3 n4 (g4 w0 n)
theorem g2 (w0 : World) (n : Nat) : LG EC Tryz.prog w0 49 n robC [((.exit 0), ktE, kME)] kt2 kM2 := LG.chunk (mkEnvL_ok _) mixed (call_ok w0) c2 n3 (g3 w0 n)
theorem g1 (w0 : World) (n : Nat) : LG EC Tryz.prog w0 49 n robC [((.exit 0), ktE, kME)] kt1 kM1 := LG.chunk (mkEnvL_ok _) mixed (call_ok w0) c1 n2 (g2 w0 n)
theorem g0 (w0 : World) (n : Nat) : LG EC Tryz.prog w0 49 n robC [((.exit 0), ktE, kME)] kt0 kM0 := LG.chunk (mkEnvL_ok _) mixed (call_ok w0) c0 n1 (g1 w0 n)
theorem one_loop : (match Tryz.f15.body with | some b => (match loopsOf b with | [_] => true | _ => false) | none => false) = true := by kernel_rfl
theorem shape : ∃ b, Tryz.f15.body = some b ∧ loopsOf b = [robC] := by
  have h := one_loop
  split at h
  · rename_i b hb
    split at h
    · rename_i c hc
      refine ⟨b, hb, ?_⟩
      unfold robC
      rw [hb]
      simp only [hc]
    · cases h
  · cases h
noncomputable def robS : Sums := loopS EC callC (hookOf 49 kt0 kM0 [((.exit 0), ktE, kME)]) 20000 15
theorem robS_ok (w0 : World) : SOK EC Tryz.prog w0 robS := by
  obtain ⟨b, h1, h2⟩ := shape
  exact loopS_ok (fn := Tryz.f15) (mkEnvL_ok _) mixed (call_ok w0) Tryz.func15 h1 h2 n0 (g0 w0)
end YtlcecnhdehdneaaGreatL
