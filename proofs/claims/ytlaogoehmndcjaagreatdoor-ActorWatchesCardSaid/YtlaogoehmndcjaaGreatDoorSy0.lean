/- Small reckonings by runs with values known by number: a frame's size, a padding's header; what the machines call. -/
import Derived.Test.YtlaogoehmndcjaaGreatDoorEvC
import Derived.Test.YtlaogoehmndcjaaGreatDoorTerm
import Derived.Test.YtlaogoehmndcjaaGreatDoorHead
import Derived.Test.YtlaogoehmndcjaaGreatDoorMeta3
set_option linter.unusedVariables false
namespace Go.Proofs.YtlaogoehmndcjaaGreatDoor.Sy
open Go Go.RowKit Go.AS Go.Base Go.Proofs.YtlaogoehmndcjaaGreatDoor.Ba
noncomputable section
def alnI (n : Int) : Int := (n + 31) / 32 * 32
theorem align_int (n : Int) (h0 : 0 ≤ n) (h1 : n ≤ 2147483648) (w : World) : Calls Tryz.prog 178 #[.int .i64 n, .int .i64 32] w fun e w' => e = .returned (.tuple #[.int .i64 (alnI n), .int .i64 0]) ∧ Below w.heap.size w w' := by
  obtain ⟨m, rfl⟩ : ∃ m : Nat, n = m := ⟨n.toNat, by omega⟩
  refine (align m (by omega) w).mono ?_
  rintro e w' ⟨rfl, rfl⟩
  refine ⟨?_, Below.refl _ _⟩
  congr 4
theorem unpackB (v : Int) (h0 : 0 ≤ v) (h1 : v < 18446744073709551616) (w : World) : Calls Tryz.prog 144 #[.int .u64 v] w fun e w' => e = .returned (.tuple #[.int .i32 (s32 (v / 4294967296)), .int .u32 (v % 4294967296)]) ∧ Below w.heap.size w w' := by
  refine (Ba.unpack_any v h0 h1 w).mono ?_
  rintro e w' ⟨rfl, rfl⟩
  exact ⟨rfl, Below.refl _ _⟩
theorem recordB (a b : Int) (w : World) : Calls Tryz.prog 228 #[.int .i32 a, .int .i32 b] w fun e w' => e = .returned (.int .u64 (u32 a + 4294967296 * u32 b)) ∧ Below w.heap.size w w' := by
  refine (Ba.record_any a b w).mono ?_
  rintro e w' ⟨rfl, rfl⟩
  exact ⟨rfl, Below.refl _ _⟩
theorem frameB (v : Int) (h0 : 0 ≤ v) (h1 : v < 18446744073709551616) (w : World) : Calls Tryz.prog 173 #[.agg #[.int .u64 v, .int .u64 0, .int .u64 0, .int .u64 0]] w fun e w' => e = .returned (.agg #[.int .i32 (s32 (v % 4294967296)), .int .u8 (v / 4294967296 % 256), .int .u8 (v / 1099511627776 % 256), .int .u16 (v / 281474976710656), .int .i32 0, .int .i32 0, .int .i32 0, .int .i32 0, .int .u64 0]) ∧ Below w.heap.size w w' :=
  Ba.frame_any v 0 0 0 ⟨h0, h1⟩ (by omega) (by omega) w
theorem w64_u32 (n : Int) : IntKind.u64.wrap (u32 n) = u32 n := by
  rw [IntKind.wrap_u64]; unfold u32; omega
theorem or0_u32 (n : Int) : bits .or .u64 0 (u32 n) = u32 n := by
  have := Ba.or_int 0 (u32 n) (by omega) (by omega) (by unfold u32; omega) (by unfold u32; omega)
  simpa using this
theorem s32_bd (x : Int) : -2147483648 ≤ s32 x ∧ s32 x ≤ 2147483647 := by unfold s32; omega
theorem mixed : Tryz.prog.follows .mixedOrders = true := by kernel_rfl
theorem u32_bd (x : Int) : 0 ≤ u32 x ∧ u32 x < 4294967296 := by unfold u32; omega
theorem s64_bd (x : Int) : -9223372036854775808 ≤ IntKind.i64.wrap x ∧ IntKind.i64.wrap x ≤ 9223372036854775807 := by rw [IntKind.wrap_i64]; omega
theorem termB (l : Lg) (hl : l.ok) (p : Int) (hp : 0 ≤ p ∧ p < l.term * 2147483648) (W : World) (hW : TabAt 0 Lib.deBruijn64tab W) : Calls Tryz.prog 172 #[.int .i64 p, .int .i32 l.ini, .int .i64 l.term] W fun e w' => e = .returned (.tuple #[.int .i32 (s32 (l.ini + p / l.term)), .int .i64 0]) ∧ Below W.heap.size W w' := by
  refine (Ba.term_yes p l.ini l.term hl.1 hp W hW).mono ?_
  rintro e w' ⟨rfl, rfl⟩
  exact ⟨rfl, Below.refl _ _⟩
theorem termN (l : Lg) (hl : l.ok) (p : Int) (hp : ¬ (0 ≤ p ∧ p < l.term * 2147483648)) (W : World) : Calls Tryz.prog 172 #[.int .i64 p, .int .i32 l.ini, .int .i64 l.term] W fun e w' => e = .returned (.tuple #[.int .i32 0, .int .i64 1]) ∧ Below W.heap.size W w' := by
  refine (Ba.term_no p l.ini l.term hl.1 hp W).mono ?_
  rintro e w' ⟨rfl, rfl⟩
  exact ⟨rfl, Below.refl _ _⟩
theorem maskB (l : Lg) (hl : l.ok) (p : Int) (hp : 0 ≤ p ∧ p ≤ 9223372036854775807) (W : World) : Calls Tryz.prog 170 #[.int .i64 p, .int .i64 l.term] W fun e w' => e = .returned (.int .i64 (p % l.term)) ∧ Below W.heap.size W w' := by
  refine (Ba.mask_any p l.term hl.1 hp.1 hp.2 W).mono ?_
  rintro e w' ⟨rfl, rfl⟩
  exact ⟨rfl, Below.refl _ _⟩
theorem countB (a b : Int) (W : World) : Calls Tryz.prog 182 #[.int .i32 a, .int .i32 b] W fun e w' => e = .returned (.int .u32 (u32 (a - b))) ∧ Below W.heap.size W w' := by
  refine (Ba.count_any a b W).mono ?_
  rintro e w' ⟨rfl, rfl⟩
  exact ⟨rfl, Below.refl _ _⟩
theorem partB (c : Int) (h0 : 0 ≤ c) (h1 : c < 4294967296) (W : World) : Calls Tryz.prog 103 #[.int .u32 c] W fun e w' => e = .returned (.int .i64 (c % 3)) ∧ Below W.heap.size W w' := by
  refine (Ba.part_any c h0 h1 W).mono ?_
  rintro e w' ⟨rfl, rfl⟩
  exact ⟨rfl, Below.refl _ _⟩
theorem tabB {w w' : World} (h : TabAt 0 Lib.deBruijn64tab w) (hb : Below 1 w w') : TabAt 0 Lib.deBruijn64tab w' := fun j hj => (hb.cell (p := ⟨0, j, none⟩) (Nat.lt_succ_self 0)).trans (h j hj)
theorem tabBare {w w' : World} (h : TabAt 0 Lib.deBruijn64tab w) (hb : Below (bare 1 w).heap.size (bare 1 w) w') : TabAt 0 Lib.deBruijn64tab w' := fun j hj => by
  have hc := h j hj
  have hlt : 0 < w.heap.size := World.block_lt_of_cell? w _ hc
  have hsz : (bare 1 w).heap.size = 1 := by
    show (w.heap.extract 0 1).size = 1
    simp
    try omega
  have hbk : (bare 1 w).heap[0]? = w.heap[0]? := by
    show (w.heap.extract 0 1)[0]? = _
    rw [Array.getElem?_extract]
    simp
    try omega
  have hk := (hb.block 0 (by omega)).trans hbk
  unfold World.cell? at hc ⊢
  simp only at hc ⊢
  rw [hk]
  exact hc
theorem words_pad_run (Tw : World → Prop) : outS 0 (evCall (mkEnvS Tryz.prog [198, 228] [5, 21, 31, 158, 160, 162] [⟨(1, 21, 155), [sym 0], sym 5⟩, ⟨(1, 155, 31), [sym 5], sym 6⟩, ⟨(16, 31, 31), [.int .u64 0, sym 6], sym 6⟩] Tw) (pureS [(228, [sym 1, sym 2], sym 7), (228, [sym 3, sym 4], sym 8)]) 60 40 (.fn 198) [.agg #[sym 0, .int .u8 0, .int .u8 0, .int .u16 0, sym 1, sym 2, sym 3, sym 4, .int .u64 0]] (memA [])) [] = [(.agg #[sym 6, sym 7, sym 8, .int .u64 0], true, [])] := by kernel_rfl
theorem words_pad (n o s st t : Int)   (w : World) : Calls Tryz.prog 198 #[.agg #[.int .i32 n, .int .u8 0, .int .u8 0, .int .u16 0, .int .i32 o, .int .i32 s, .int .i32 st, .int .i32 t, .int .u64 0]] w fun e w' => e = .returned (.agg #[.int .u64 (u32 n), .int .u64 (u32 o + 4294967296 * u32 s), .int .u64 (u32 st + 4294967296 * u32 t), .int .u64 0]) ∧ Below w.heap.size w w' := by
  letI : Rho := ⟨dl [.int .i32 n, .int .i32 o, .int .i32 s, .int .i32 st, .int .i32 t, .int .u32 (u32 n), .int .u64 (u32 n), .int .u64 (u32 o + 4294967296 * u32 s), .int .u64 (u32 st + 4294967296 * u32 t)]⟩
  have hD : ((List.range 9).all fun i => (dl [.int .i32 n, .int .i32 o, .int .i32 s, .int .i32 st, .int .i32 t, .int .u32 (u32 n), .int .u64 (u32 n), .int .u64 (u32 o + 4294967296 * u32 s), .int .u64 (u32 st + 4294967296 * u32 t)] i).oneCell') = true := by kernel_rfl
  exact runPure (Tw := fun _ => True) mixed (dl [.int .i32 n, .int .i32 o, .int .i32 s, .int .i32 st, .int .i32 t, .int .u32 (u32 n), .int .u64 (u32 n), .int .u64 (u32 o + 4294967296 * u32 s), .int .u64 (u32 st + 4294967296 * u32 t)]) hD (allR_cons (rconv (j := .i32) (k := .u32) (n := n) (n' := u32 n) (by kernel_rfl) (by kernel_rfl) (by kernel_rfl) (by kernel_rfl) (IntKind.wrap_u32 _)) (allR_cons (rconv (j := .u32) (k := .u64) (n := u32 n) (n' := u32 n) (by kernel_rfl) (by kernel_rfl) (by kernel_rfl) (by kernel_rfl) (w64_u32 _)) (allR_cons (rint .or (j := .u64) (k := .u64) (x := 0) (y := u32 n) (v := .int .u64 (u32 n)) (by kernel_rfl) (by kernel_rfl) (by kernel_rfl) (by kernel_rfl) (bin_or (or0_u32 _)) (by kernel_rfl)) (allR_nil)))) (allP_cons (pimg hD (f := 228) (args := #[.int .i32 o, .int .i32 s]) (r := .int .u64 (u32 o + 4294967296 * u32 s)) (by kernel_rfl) (by kernel_rfl) (by kernel_rfl) (fun W hW => recordB o s W)) (allP_cons (pimg hD (f := 228) (args := #[.int .i32 st, .int .i32 t]) (r := .int .u64 (u32 st + 4294967296 * u32 t)) (by kernel_rfl) (by kernel_rfl) (by kernel_rfl) (fun W hW => recordB st t W)) (allP_nil))) (by kernel_rfl) (by kernel_rfl) (words_pad_run _) (by kernel_rfl) (by kernel_rfl) w (fun _ _ => trivial)
end
end Go.Proofs.YtlaogoehmndcjaaGreatDoor.Sy
