/- The program's walk over a part's frames: what its iterator gives to a loop that keeps what lay below. -/
import Derived.Test.YtndgbfpcnkmihaaGreatDoorFrD
import Derived.Deep.RegionWith
import Derived.Deep.RegionHeld3
import Derived.Stop.RegionWithIn
import Derived.RangeFuncFrom
import Derived.RangeFuncLeaves
import Derived.OwnWalkIn
import Derived.TacticsInMore
import Derived.RegionIn
namespace Go.Proofs.YtndgbfpcnkmihaaGreatDoor.Sy
open Go Go.RowKit Go.Lib Go.Base Go.Proofs.YtndgbfpcnkmihaaGreatDoor.Ba Go.Proofs.YtndgbfpcnkmihaaGreatDoor
theorem cell_one {W : World} {b : Nat} {t : TypeId} {v : Value} (h : W.heap[b]? = some (.cells #[v] t)) : W.cell? ⟨b, 0, none⟩ = some v := by simp [World.cell?, h]
/-- a post that nothing but a plain end meets -/
def OnlyNormal (K : Act → World → Prop) : Exit → Act → World → Prop
  | .normal, a, w => K a w
  | _, _, _ => False
set_option maxHeartbeats 6400000 in
set_option maxRecDepth 1000000 in
/-- the region in which a frame is handed to the loop's round -/
theorem region11 (m ll Bp A9 : Nat) (pn x z st f0 f1 f2 f3 f4 f5 f6 f7 d : Int) (v1 v2 v4 v5 v7 v8 v11 v12 v13 v14 v15 v16 v17 v18 v19 v20 v21 v22 v23 v24 v25 v26 v27 v28 v29 v30 v31 v32 v33 v34 v35 v36 v37 v38 v39 v40 v41 v42 v43 v44 v45 v46 v47 v48 v49 v50 v51 v52 v53 v54 v55 v56 v57 v58 v59 : Value) (K : Act → World → Prop) (R : Bool → World → Prop) (w8 : World) (hbeq : (z == 0) = false)
    (c57 : ∀ W, Calls Tryz.prog 57 #[.agg #[.int .i32 f0, .int .u8 f1, .int .u8 f2, .int .u16 f3, .int .i32 f4, .int .i32 f5, .int .i32 f6, .int .i32 f7, .int .u64 d]] W fun e w' => e = .returned (.int .i64 st) ∧ Below W.heap.size W w')
    (h8 : w8.heap[A9]? = some (.cells #[.int .i32 f0, .int .u8 f1, .int .u8 f2, .int .u16 f3, .int .i32 f4, .int .i32 f5, .int .i32 f6, .int .i32 f7, .int .u64 d] 40)) (hp8 : w8.heap[Bp]? = some (.cells #[.int .i64 pn] 3))
    (hY : ∀ w9, Below w8.heap.size w8 w9 → YieldAt Fence.wide (m - 1) Tryz.prog ll #[.agg #[.int .i64 pn, .int .i64 x, .int .i32 f0, .int .u8 f1, .int .u8 f2, .int .u16 f3, .int .i32 f4, .int .i32 f5, .int .i32 f6, .int .i32 f7, .int .u64 d, .int .i64 st]] w9 fun e W' => ∃ b : Bool, e = .returned (.bool b) ∧ R b W')
    (hK : ∀ (b : Bool) (w10 : World), R b w10 → K { tmps := #[.func (.yield ll) #[] #[], v1, v2, .pointer (some ⟨Bp, 0, none⟩), v4, v5, .int .i64 x, v7, v8, .pointer (some ⟨A9, 0, none⟩), .int .i64 z, v11, v12, v13, v14, v15, v16, v17, v18, v19, v20, v21, v22, v23, v24, v25, v26, v27, v28, v29, v30, v31, v32, v33, v34, v35, v36, v37, v38, v39, v40, v41, v42, v43, .int .i64 z, .bool false, .bool false, .func (.yield ll) #[] #[], .int .i64 pn, .int .i64 x, .agg #[.int .i32 f0, .int .u8 f1, .int .u8 f2, .int .u16 f3, .int .i32 f4, .int .i32 f5, .int .i32 f6, .int .i32 f7, .int .u64 d], .agg #[.int .i32 f0, .int .u8 f1, .int .u8 f2, .int .u16 f3, .int .i32 f4, .int .i32 f5, .int .i32 f6, .int .i32 f7, .int .u64 d], .int .i64 st, .agg #[.int .i64 pn, .int .i64 x, .int .i32 f0, .int .u8 f1, .int .u8 f2, .int .u16 f3, .int .i32 f4, .int .i32 f5, .int .i32 f6, .int .i32 f7, .int .u64 d, .int .i64 st], .bool b, .bool (!b), .bool (!b), v57, v58, v59], defers := [] } w10) :
    (Code.region 11 #[{ dst := some 44, op := Op.move (Operand.tmp 10), type := 2, pos := "inspect.go:68", after := #[], guard := none },
    { dst := some 45, op := Op.binOp BinOp.eql 2 (Operand.tmp 44) (Operand.const (Value.int IntKind.i64 0)) 2, type := 4, pos := "inspect.go:68", after := #[{ on := 0, ground := Ground.data }], guard := none },
    { dst := some 46, op := Op.move (Operand.tmp 45), type := 4, pos := "inspect.go:68", after := #[{ on := 1, ground := Ground.data }], guard := none },
    { dst := some 47, op := Op.move (Operand.tmp 0), type := 106, pos := "inspect.go:68", after := #[{ on := 2, ground := Ground.guard }], guard := some (2, false) },
    { dst := some 48, op := Op.load 3 (Operand.tmp 3), type := 3, pos := "inspect.go:68", after := #[{ on := 2, ground := Ground.guard }], guard := some (2, false) },
    { dst := some 49, op := Op.move (Operand.tmp 6), type := 3, pos := "inspect.go:68", after := #[{ on := 2, ground := Ground.guard }], guard := some (2, false) },
    { dst := some 50, op := Op.load 40 (Operand.tmp 9), type := 40, pos := "inspect.go:68", after := #[{ on := 2, ground := Ground.guard }], guard := some (2, false) },
    { dst := some 51, op := Op.load 40 (Operand.tmp 9), type := 40, pos := "inspect.go:68", after := #[{ on := 2, ground := Ground.guard }], guard := some (2, false) },
    { dst := some 52, op := Op.call { callee := Callee.value (Operand.func 57), args := #[Operand.tmp 51], argTypes := #[40] }, type := 3, pos := "inspect.go:68", after := #[{ on := 7, ground := Ground.data }, { on := 2, ground := Ground.chain }, { on := 2, ground := Ground.guard }], guard := some (2, false) },
    { dst := some 53, op := Op.build 42 #[(0, Operand.tmp 48), (1, Operand.tmp 49), (2, Operand.tmp 50), (3, Operand.tmp 52)], type := 42, pos := "inspect.go:68", after := #[{ on := 4, ground := Ground.data }, { on := 5, ground := Ground.data }, { on := 6, ground := Ground.data }, { on := 8, ground := Ground.data }, { on := 2, ground := Ground.guard }], guard := some (2, false) },
    { dst := some 54, op := Op.call { callee := Callee.value (Operand.tmp 47), args := #[Operand.tmp 53], argTypes := #[42] }, type := 4, pos := "inspect.go:68", after := #[{ on := 3, ground := Ground.data }, { on := 9, ground := Ground.data }, { on := 8, ground := Ground.chain }, { on := 2, ground := Ground.guard }], guard := some (2, false) },
    { dst := some 55, op := Op.unOp UnOp.not 4 (Operand.tmp 54), type := 4, pos := "inspect.go:68", after := #[{ on := 10, ground := Ground.data }, { on := 2, ground := Ground.guard }], guard := some (2, false) },
    { dst := some 56, op := Op.pick (Operand.tmp 46) (Operand.const (Value.bool true)) (Operand.tmp 55), type := 4, pos := "inspect.go:68", after := #[{ on := 2, ground := Ground.data }, { on := 11, ground := Ground.data }], guard := none }] true).wpIn Fence.wide m Tryz.prog (OnlyNormal K) { tmps := #[.func (.yield ll) #[] #[], v1, v2, .pointer (some ⟨Bp, 0, none⟩), v4, v5, .int .i64 x, v7, v8, .pointer (some ⟨A9, 0, none⟩), .int .i64 z, v11, v12, v13, v14, v15, v16, v17, v18, v19, v20, v21, v22, v23, v24, v25, v26, v27, v28, v29, v30, v31, v32, v33, v34, v35, v36, v37, v38, v39, v40, v41, v42, v43, v44, v45, v46, v47, v48, v49, v50, v51, v52, v53, v54, v55, v56, v57, v58, v59], defers := [] } w8 := by
  have hF57 : Fence.wide.fn 57 := trivial
  have hFd : Fence.wide.depth = none := rfl
  have H8 := Lib.hid (And.intro h8 hp8)
  obtain ⟨q0, q1, q2, q3, q4, q5, q6, q7, q8, q9⟩ := blkF9 h8
  have hcp := cell_one hp8
  clear h8 hp8
  gi_region_with (first
    | (gi_at_call 57
       refine (callsIn_wide.2 (c57 _)).mono ?_
       clear c57 q0 q1 q2 q3 q4 q5 q6 q7 q8 q9 hcp
       rintro e w9 ⟨rfl, hB9⟩
       have hB89 : Below w8.heap.size w8 w9 := (Below.drew (Below.refl _ _)).trans hB9
       obtain ⟨fn, tmps, assign, body, hy, hR⟩ := hY w9 hB89
       obtain ⟨q0, q1, q2, q3, q4, q5, q6, q7, q8, q9⟩ := blkF9 ((hB89.block A9 (Array.getElem?_eq_some_iff.1 H8.out.1).1).trans H8.out.1)
       have hcp := cell_one ((hB89.block Bp (Array.getElem?_eq_some_iff.1 H8.out.2).1).trans H8.out.2)
       clear hB9 hB89)
    | (refine hR.mono ?_
       rintro e w10 ⟨b, rfl, h10⟩
       have H10 := Lib.hid h10
       clear h10))
  all_goals
    refine (congrArg (fun a => K a w10) ?_).mpr (hK b w10 H10.out)
    kernel_rfl
end Go.Proofs.YtndgbfpcnkmihaaGreatDoor.Sy
