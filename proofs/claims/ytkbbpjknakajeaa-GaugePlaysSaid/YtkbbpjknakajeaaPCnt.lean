/- A counter asked for, of a set of any names. -/
import Derived.Test.YtkbbpjknakajeaaPMap
namespace Go.Proofs.Ytkbbpjknakajeaa
open Go Go.AE Go.RowKit
open Go.ChangeMaps (setBlock)
/-- a counter that has not counted -/
def freshC : Obj := .cells #[.int .u32 0, .int .i32 0, .int .u32 0, .pointer none] 88
inductive Asked (w : World) (mb : Nat) (l : List (ByteArray × Nat)) (s : ByteArray) (x : Ending) (w' : World) : Prop where
  | there {q : Nat} {e : ByteArray × Nat} (hq : l[q]? = some e) (he : e.1 = s) (hx : x = .returned (.tuple #[.pointer (some ⟨e.2, 0, none⟩), .int .i64 0])) (hw : w' = w)
  | form (hn : fnd s l 0 = none) (hs : ¬ IsNm s) (hx : x = .returned (.tuple #[.pointer none, .int .i64 8])) (hw : RowKit.Below w.heap.size w w')
  | many (hn : fnd s l 0 = none) (hs : IsNm s) (h64 : 64 ≤ l.length) (hx : x = .returned (.tuple #[.pointer none, .int .i64 12])) (hw : RowKit.Below w.heap.size w w')
  | new (hn : fnd s l 0 = none) (hs : IsNm s) (h64 : l.length < 64) {W : World} (hW : RowKit.Below w.heap.size w W) (hx : x = .returned (.tuple #[.pointer (some ⟨W.heap.size, 0, none⟩), .int .i64 0]))
      (hw : w' = setBlock (W.alloc freshC) mb (.map (mkL (l ++ [(s, W.heap.size)]) 0).toArray (l.length + 1)))
theorem len_P (w : World) (mb : Nat) (l : List (ByteArray × Nat)) (hm : w.heap[mb]? = some (.map (mkL l 0).toArray l.length)) : ∀ ty, (Builtin.len_ #[70] ty #[.map (some mb)]).run Try.prog w = .ok (.int .i64 l.length) w := fun ty => by
  simp [Builtin.len_, run_underlying Try.underlying70, Go.AE.run_getObj_map hm, goInt, Result.andThen, mkL_len]
set_option maxRecDepth 1000000 in
set_option maxHeartbeats 3200000 in
theorem counter_any (sb so mb : Nat) (l : List (ByteArray × Nat)) (w : World) (hs : w.cell? ⟨sb, so, none⟩ = some (.map (some mb))) (hm : w.heap[mb]? = some (.map (mkL l 0).toArray l.length)) (s : ByteArray) :
    Calls Try.prog 18 #[.pointer (some ⟨sb, so, none⟩), .string s] w fun x w' => Asked w mb l s x w' := by
  have hsb : sb < w.heap.size := by have := World.block_lt_of_cell? w ⟨sb, so, none⟩ hs; simpa using this
  have hmb : mb < w.heap.size := (Array.getElem?_eq_some_iff.1 hm).1
  rcases lookup_P w mb l hm s with ⟨q, e, hq, he, hf, hlk⟩ | ⟨hf, hlk⟩
  · have HQ := Lib.hid (And.intro hq he)
    clear hq he hf
    go_enter Try.func18, Try.ntmps18
    go_wp2
    go_ret2
    exact .there HQ.out.1 HQ.out.2 rfl rfl
  · have HF := Lib.hid hf
    clear hf
    by_cases hnm : IsNm s
    · by_cases h64 : (l.length : Int) ≥ 64
      · go_enter Try.func18, Try.ntmps18
        go_wp2_with (go_at_call 27; refine (isName_any _ _).mono ?_; rintro e w2 ⟨⟨b, rfl, hb⟩, hB⟩; obtain rfl : b = true := hb.2 hnm; have hs2 : w2.cell? ⟨sb, so, none⟩ = some (.map (some mb)) := (hB.cell (p := ⟨sb, so, none⟩) hsb).trans hs; have hm2 : w2.heap[mb]? = some (.map (mkL l 0).toArray l.length) := (hB.block mb hmb).trans hm; have hln := len_P w2 mb l hm2; have hin := insert_P (w2.alloc freshC) mb l (by rw [Below.heap_alloc _ _ _ (Nat.lt_of_lt_of_le hmb hB.size)]; exact hm2) s (.pointer (some ⟨w2.heap.size, 0, none⟩)) HF.out; rw [push_mkL] at hin; have hs3 : (w2.alloc freshC).cell? ⟨sb, so, none⟩ = some (.map (some mb)) := (by rw [World.cell?_alloc_past _ _ _ (Nat.lt_of_lt_of_le hsb hB.size)]; exact hs2); unfold freshC at hin hs3; have HB := Lib.hid hB; clear hb hB)
        go_ret2
        exact .many HF.out hnm (by omega) rfl HB.out
      · go_enter Try.func18, Try.ntmps18
        go_wp2_with (go_at_call 27; refine (isName_any _ _).mono ?_; rintro e w2 ⟨⟨b, rfl, hb⟩, hB⟩; obtain rfl : b = true := hb.2 hnm; have hs2 : w2.cell? ⟨sb, so, none⟩ = some (.map (some mb)) := (hB.cell (p := ⟨sb, so, none⟩) hsb).trans hs; have hm2 : w2.heap[mb]? = some (.map (mkL l 0).toArray l.length) := (hB.block mb hmb).trans hm; have hln := len_P w2 mb l hm2; have hin := insert_P (w2.alloc freshC) mb l (by rw [Below.heap_alloc _ _ _ (Nat.lt_of_lt_of_le hmb hB.size)]; exact hm2) s (.pointer (some ⟨w2.heap.size, 0, none⟩)) HF.out; rw [push_mkL] at hin; have hs3 : (w2.alloc freshC).cell? ⟨sb, so, none⟩ = some (.map (some mb)) := (by rw [World.cell?_alloc_past _ _ _ (Nat.lt_of_lt_of_le hsb hB.size)]; exact hs2); unfold freshC at hin hs3; have HB := Lib.hid hB; clear hb hB)
        go_ret2
        exact .new HF.out hnm (by omega) HB.out rfl rfl
    · go_enter Try.func18, Try.ntmps18
      go_wp2_with (go_at_call 27; refine (isName_any _ _).mono ?_; rintro e w2 ⟨⟨b, rfl, hb⟩, hB⟩; obtain rfl : b = false := (Bool.eq_false_iff.2 (fun h => hnm (hb.1 h))); have hs2 : w2.cell? ⟨sb, so, none⟩ = some (.map (some mb)) := (hB.cell (p := ⟨sb, so, none⟩) hsb).trans hs; have hm2 : w2.heap[mb]? = some (.map (mkL l 0).toArray l.length) := (hB.block mb hmb).trans hm; have hln := len_P w2 mb l hm2; have hin := insert_P (w2.alloc freshC) mb l (by rw [Below.heap_alloc _ _ _ (Nat.lt_of_lt_of_le hmb hB.size)]; exact hm2) s (.pointer (some ⟨w2.heap.size, 0, none⟩)) HF.out; rw [push_mkL] at hin; have hs3 : (w2.alloc freshC).cell? ⟨sb, so, none⟩ = some (.map (some mb)) := (by rw [World.cell?_alloc_past _ _ _ (Nat.lt_of_lt_of_le hsb hB.size)]; exact hs2); unfold freshC at hin hs3; have HB := Lib.hid hB; clear hb hB)
      go_ret2
      exact .form HF.out hnm rfl HB.out
end Go.Proofs.Ytkbbpjknakajeaa
