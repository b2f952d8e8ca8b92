/- Small reckonings by runs with values known by number: a frame's size, a padding's header; what the machines call. -/
import Derived.Test.YtndgbfpcnkmihaaGreatDoorEvC
import Derived.Test.YtndgbfpcnkmihaaGreatDoorSize2
import Derived.Test.YtndgbfpcnkmihaaGreatDoorPlaceA
import Derived.Test.YtndgbfpcnkmihaaGreatDoorMeta3
namespace Go.Proofs.YtndgbfpcnkmihaaGreatDoor.Sy
open Go Go.RowKit Go.AS Go.Base
noncomputable section
def alnI (n : Int) : Int := (n + 31) / 32 * 32
theorem align_int (n : Int) (h0 : 0 ≤ n) (h1 : n ≤ 2147483648) (w : World) : Calls Tryz.prog 60 #[.int .i64 n, .int .i64 32] w fun e w' => e = .returned (.tuple #[.int .i64 (alnI n), .int .i64 0]) ∧ Below w.heap.size w w' := by
  obtain ⟨m, rfl⟩ : ∃ m : Nat, n = m := ⟨n.toNat, by omega⟩
  refine (align m (by omega) w).mono ?_
  rintro e w' ⟨rfl, rfl⟩
  refine ⟨?_, Below.refl _ _⟩
  congr 4
theorem unpackB (v : Int) (h0 : 0 ≤ v) (h1 : v < 18446744073709551616) (w : World) : Calls Tryz.prog 146 #[.int .u64 v] w fun e w' => e = .returned (.tuple #[.int .i32 (s32 (v / 4294967296)), .int .u32 (v % 4294967296)]) ∧ Below w.heap.size w w' := by
  refine (Ba.unpack_any v h0 h1 w).mono ?_
  rintro e w' ⟨rfl, rfl⟩
  exact ⟨rfl, Below.refl _ _⟩
theorem recordB (a b : Int) (w : World) : Calls Tryz.prog 230 #[.int .i32 a, .int .i32 b] w fun e w' => e = .returned (.int .u64 (u32 a + 4294967296 * u32 b)) ∧ Below w.heap.size w w' := by
  refine (Ba.record_any a b w).mono ?_
  rintro e w' ⟨rfl, rfl⟩
  exact ⟨rfl, Below.refl _ _⟩
theorem frameB (v : Int) (h0 : 0 ≤ v) (h1 : v < 18446744073709551616) (w : World) : Calls Tryz.prog 56 #[.agg #[.int .u64 v, .int .u64 0, .int .u64 0, .int .u64 0]] w fun e w' => e = .returned (.agg #[.int .i32 (s32 (v % 4294967296)), .int .u8 (v / 4294967296 % 256), .int .u8 (v / 1099511627776 % 256), .int .u16 (v / 281474976710656), .int .i32 0, .int .i32 0, .int .i32 0, .int .i32 0, .int .u64 0]) ∧ Below w.heap.size w w' :=
  Ba.frame_any v 0 0 0 ⟨h0, h1⟩ (by omega) (by omega) w
theorem w64_u32 (n : Int) : IntKind.u64.wrap (u32 n) = u32 n := by
  rw [IntKind.wrap_u64]; unfold u32; omega
theorem or0_u32 (n : Int) : bits .or .u64 0 (u32 n) = u32 n := by
  have := Ba.or_int 0 (u32 n) (by omega) (by omega) (by unfold u32; omega) (by unfold u32; omega)
  simpa using this
theorem s32_bd (x : Int) : -2147483648 ≤ s32 x ∧ s32 x ≤ 2147483647 := by unfold s32; omega
theorem mixed : Tryz.prog.follows .mixedOrders = true := by kernel_rfl
theorem words_pad_run : outS 0 (evCall (mkEnvS Tryz.prog [202, 230] [5, 21, 27, 38, 40, 107] [⟨(1, 21, 26), [sym 0], sym 5⟩, ⟨(1, 26, 27), [sym 5], sym 6⟩, ⟨(16, 27, 27), [.int .u64 0, sym 6], sym 6⟩]) (pureS [(230, [sym 1, sym 2], sym 7), (230, [sym 3, sym 4], sym 8)]) 60 40 (.fn 202) [.agg #[sym 0, .int .u8 0, .int .u8 0, .int .u16 0, sym 1, sym 2, sym 3, sym 4, .int .u64 0]] (memA [])) [] = [(.agg #[sym 6, sym 7, sym 8, .int .u64 0], true, [])] := by kernel_rfl
theorem words_pad (n o s st t : Int)   (w : World) : Calls Tryz.prog 202 #[.agg #[.int .i32 n, .int .u8 0, .int .u8 0, .int .u16 0, .int .i32 o, .int .i32 s, .int .i32 st, .int .i32 t, .int .u64 0]] w fun e w' => e = .returned (.agg #[.int .u64 (u32 n), .int .u64 (u32 o + 4294967296 * u32 s), .int .u64 (u32 st + 4294967296 * u32 t), .int .u64 0]) ∧ Below w.heap.size w w' := by
  letI : Rho := ⟨dl [.int .i32 n, .int .i32 o, .int .i32 s, .int .i32 st, .int .i32 t, .int .u32 (u32 n), .int .u64 (u32 n), .int .u64 (u32 o + 4294967296 * u32 s), .int .u64 (u32 st + 4294967296 * u32 t)]⟩
  have hD : ((List.range 9).all fun i => (dl [.int .i32 n, .int .i32 o, .int .i32 s, .int .i32 st, .int .i32 t, .int .u32 (u32 n), .int .u64 (u32 n), .int .u64 (u32 o + 4294967296 * u32 s), .int .u64 (u32 st + 4294967296 * u32 t)] i).oneCell') = true := by kernel_rfl
  exact runPure (Tw := fun _ => True) mixed (dl [.int .i32 n, .int .i32 o, .int .i32 s, .int .i32 st, .int .i32 t, .int .u32 (u32 n), .int .u64 (u32 n), .int .u64 (u32 o + 4294967296 * u32 s), .int .u64 (u32 st + 4294967296 * u32 t)]) hD (allR_cons (rconv (j := .i32) (k := .u32) (n := n) (n' := u32 n) (by kernel_rfl) (by kernel_rfl) (by kernel_rfl) (by kernel_rfl) (IntKind.wrap_u32 _)) (allR_cons (rconv (j := .u32) (k := .u64) (n := u32 n) (n' := u32 n) (by kernel_rfl) (by kernel_rfl) (by kernel_rfl) (by kernel_rfl) (w64_u32 _)) (allR_cons (rint .or (j := .u64) (k := .u64) (x := 0) (y := u32 n) (v := .int .u64 (u32 n)) (by kernel_rfl) (by kernel_rfl) (by kernel_rfl) (by kernel_rfl) (bin_or (or0_u32 _)) (by kernel_rfl)) (allR_nil)))) (allP_cons (pimg hD (f := 230) (args := #[.int .i32 o, .int .i32 s]) (r := .int .u64 (u32 o + 4294967296 * u32 s)) (by kernel_rfl) (by kernel_rfl) (by kernel_rfl) (fun W hW => recordB o s W)) (allP_cons (pimg hD (f := 230) (args := #[.int .i32 st, .int .i32 t]) (r := .int .u64 (u32 st + 4294967296 * u32 t)) (by kernel_rfl) (by kernel_rfl) (by kernel_rfl) (fun W hW => recordB st t W)) (allP_nil))) (by kernel_rfl) (by kernel_rfl) words_pad_run (by kernel_rfl) (by kernel_rfl) w (fun _ _ => trivial)
end
end Go.Proofs.YtndgbfpcnkmihaaGreatDoor.Sy
