/- What a counter holds that has counted; sorting gauges by their names. -/
import Derived.Test.YtkbbpjknakajeaaGShelf
import Derived.Test.YtkbbpjknakajeaaNames
import Derived.Lib.Bytealg
import Derived.WalkKit
import Derived.Laws.LoneSync
import Derived.Laws.Externs
import Derived.Lib.Hide
namespace Go.Proofs.Ytkbbpjknakajeaa
open Go Go.Shelf Go.RowKit Go.Lib Go.Sort
theorem cmp_less {a b : UInt8} (h : a < b) : ¬ b < a := by
  have h1 := UInt8.lt_iff_toNat_lt.1 h
  intro h2
  have := UInt8.lt_iff_toNat_lt.1 h2
  omega
theorem cmp_cons (a b : UInt8) (xs bs : List UInt8) : compareBytes (a :: xs) (b :: bs) = if a < b then -1 else if b < a then 1 else compareBytes xs bs := rfl
theorem cmp_irr : ∀ a : List UInt8, ¬ compareBytes a a < 0
  | [] => by simp [compareBytes]
  | a :: xs => by
    have h : ¬ a < a := fun h => cmp_less h h
    rw [cmp_cons, if_neg h, if_neg h]; exact cmp_irr xs
theorem u8_eq {a b : UInt8} (h1 : ¬ a < b) (h2 : ¬ b < a) : a = b := by
  rw [UInt8.lt_iff_toNat_lt] at h1 h2
  exact UInt8.toNat_inj.1 (by omega)
theorem u8_trans {a b c : UInt8} (h1 : a < b) (h2 : b < c) : a < c := by
  rw [UInt8.lt_iff_toNat_lt] at *
  omega
theorem cmp_trans : ∀ a b c : List UInt8, compareBytes a b < 0 → compareBytes b c < 0 → compareBytes a c < 0
  | [], [], _, h, _ => by simp [compareBytes] at h
  | [], _ :: _, [], _, h => by simp [compareBytes] at h
  | [], _ :: _, _ :: _, _, _ => by simp [compareBytes]
  | _ :: _, [], _, h, _ => by simp [compareBytes] at h
  | _ :: _, _ :: _, [], _, h => by simp [compareBytes] at h
  | a :: xs, b :: bs, c :: cs, h1, h2 => by
    rw [cmp_cons] at h1 h2 ⊢
    by_cases hab : a < b
    · by_cases hbc : b < c
      · rw [if_pos (u8_trans hab hbc)]; omega
      · by_cases hcb : c < b
        · rw [if_neg hbc, if_pos hcb] at h2; omega
        · obtain rfl := u8_eq hbc hcb
          rw [if_pos hab]; omega
    · by_cases hba : b < a
      · rw [if_neg hab, if_pos hba] at h1; omega
      · obtain rfl := u8_eq hab hba
        by_cases hbc : a < c
        · rw [if_pos hbc]; omega
        · by_cases hcb : c < a
          · rw [if_neg hbc, if_pos hcb] at h2; omega
          · rw [if_neg hbc, if_neg hcb] at h2 ⊢
            rw [if_neg hab, if_neg hba] at h1
            exact cmp_trans xs bs cs h1 h2
theorem cmp_ntrans : ∀ a b c : List UInt8, ¬ compareBytes a b < 0 → ¬ compareBytes b c < 0 → ¬ compareBytes a c < 0
  | [], [], [], _, _ => by simp [compareBytes]
  | [], [], _ :: _, _, h => by simp [compareBytes] at h
  | [], _ :: _, _, h, _ => by simp [compareBytes] at h
  | _ :: _, _, [], _, _ => by simp [compareBytes]
  | _ :: _, [], _ :: _, _, h => by simp [compareBytes] at h
  | a :: xs, b :: bs, c :: cs, h1, h2 => by
    rw [cmp_cons] at h1 h2 ⊢
    by_cases hab : a < b
    · rw [if_pos hab] at h1; omega
    · by_cases hbc : b < c
      · rw [if_pos hbc] at h2; omega
      · by_cases hba : b < a
        · have hac : ¬ a < c := fun h => by
            rcases Classical.em (c < b) with h3 | h3
            · exact hab (u8_trans h h3)
            · obtain rfl := u8_eq hbc h3; exact hab h
          have hca : c < a := by
            rcases Classical.em (c < b) with h3 | h3
            · exact u8_trans h3 hba
            · obtain rfl := u8_eq hbc h3; exact hba
          rw [if_neg hac, if_pos hca]; omega
        · obtain rfl := u8_eq hab hba
          by_cases hcb : c < a
          · rw [if_neg hbc, if_pos hcb]; omega
          · rw [if_neg hbc, if_neg hcb] at h2 ⊢
            rw [if_neg hab, if_neg hba] at h1
            exact cmp_ntrans xs bs cs h1 h2
def cfG (x y : ByteArray × Int) : Int := compareBytes x.1.data.toList y.1.data.toList
theorem swoG : SWO (ltOf cfG) where
  irrefl _ := decide_eq_false (cmp_irr _)
  trans _ _ _ h1 h2 := decide_eq_true (cmp_trans _ _ _ (of_decide_eq_true h1) (of_decide_eq_true h2))
  ntrans _ _ _ h1 h2 := decide_eq_false (cmp_ntrans _ _ _ (of_decide_eq_false h1) (of_decide_eq_false h2))
def encG (x : ByteArray × Int) : List Value := [.string x.1, .int .i64 x.2]
theorem cmp74 (a b : ByteArray) (w : World) : (callFunc 74 #[.string a, .string b]).run Try.prog w = .ok (.value (.int .i64 (compareBytes a.data.toList b.data.toList))) w := by
  rw [run_callFunc_extern Try.func74 (by kernel_rfl) (by kernel_rfl) (by kernel_rfl) (e := Extern.BytealgCompare.compare) (by kernel_rfl), run_compareString]
  rfl
theorem compare_any (a b : ByteArray) (w : World) : Calls Try.prog 42 #[.string a, .string b] w fun e w' => e = .returned (.int .i64 (compareBytes a.data.toList b.data.toList)) ∧ w' = w := by
  have h74 := fun w => cmp74 a b w
  generalize compareBytes a.data.toList b.data.toList = r at h74 ⊢
  have c56 : ∀ w, Calls Try.prog 56 #[.string a, .string b] w fun e w' => e = .returned (.int .i64 r) ∧ w' = w := by
    intro w
    go_enter Try.func56, Try.ntmps56
    go_wp2
    go_ret
    exact ⟨rfl, rfl⟩
  go_enter Try.func42, Try.ntmps42
  go_wp2_with (go_at_call 56; refine (c56 _).mono ?_; rintro e w' ⟨rfl, rfl⟩)
  go_ret
  exact ⟨rfl, rfl⟩
set_option maxHeartbeats 1000000 in
theorem closure41 (x y : ByteArray × Int) (W : World) : Calls Try.prog 41 #[.agg #[.string x.1, .int .i64 x.2], .agg #[.string y.1, .int .i64 y.2]] W fun e w' => e = .returned (.int .i64 (cfG x y)) ∧ ∃ q os', w' = grow (W.drewN q) os' := by
  have hcon := fun W' => compare_any x.1 y.1 W'
  unfold cfG
  generalize compareBytes x.1.data.toList y.1.data.toList = r at hcon ⊢
  go_enter Try.func41, Try.ntmps41
  go_wp2_with (go_at_call 42; refine (hcon _).mono ?_; rintro e w' ⟨rfl, rfl⟩)
  go_ret
  exact ⟨rfl, 0, _, by rw [alloc_eq_grow, alloc_eq_grow, grow_grow]; rfl⟩
theorem cmpLays41 (blk off size : Nat) (w : World) : CmpLays Try.prog 41 #[] encG 2 cfG blk off size w := fun _ _ _ _ x y => closure41 x y _
theorem below_sorted {α : Type} [Inhabited α] (enc : α → List Value) (k : Nat) (w : World) (blk off n : Nat) (d : Array α) (os : Array Obj) {B : Nat} (hB : B ≤ blk) (hblk : blk < w.heap.size) : RowKit.Below B w (sortWorldK enc k w blk off n d os) := by
  refine ⟨rfl, rfl, rfl, size_sortWorldK_c enc k w blk off n d os, fun q hq => ?_⟩
  show ((w.heap.modify blk _) ++ os)[q]? = _
  rw [Array.getElem?_append_left (by simp; omega), Array.getElem?_modify, if_neg (by omega)]
theorem sort_c (blk cap : Nat) (d : Array (ByteArray × Int)) (w : World) (hH : HoldsK encG 2 w blk 0 d) (hblk : blk < w.heap.size) (hsz : d.size ≤ 1000) {B : Nat} (hB : B ≤ blk) :
    Calls Try.prog 40 #[.slice (some ⟨blk, 0, none⟩) d.size cap, .func (.func 41) #[] #[]] w fun e w' => e = .returned (.tuple #[]) ∧ RowKit.Below B w w' := by
  have eg : ∀ args w, (callFunc 41 args).run Try.prog w = .ok (.enter 41 args) w := enters_of Try.func41 (by kernel_rfl) rfl
  have hcon := AnyQ.slices_SortFunc Try.sortG 2 Try.isAgg52 Try.sizeOf52 encG (fun _ => rfl) (fun x v hv => by simp [encG] at hv; rcases hv with rfl | rfl <;> rfl) cfG swoG 41 #[] blk 0 cap d w eg (cmpLays41 blk 0 d.size w) hH hblk (by omega)
  change Calls Try.prog 40 _ _ _ at hcon
  refine hcon.mono ?_
  rintro e w' ⟨rfl, d', n, os, _, _, rfl⟩
  exact ⟨rfl, below_sorted encG 2 w blk 0 n d' os hB hblk⟩
/-- a counter that has counted -/
structure CntAt (w : World) (v : Value) (z : Int) : Prop where
  ex : ∃ b o yb yo, v = .pointer (some ⟨b, o, none⟩) ∧ w.cell? ⟨b, o, none⟩ = some (.int .u32 1) ∧ w.cell? ⟨b, o + 3, none⟩ = some (.pointer (some ⟨yb, yo, none⟩)) ∧ w.cell? ⟨yb, yo, none⟩ = some (.int .i64 z)
theorem do_done (a : Addr) (fv : Value) (w : World) (h0 : w.cell? a = some (.int .u32 1)) :
    Calls Try.prog 50 #[.pointer (some a), fv] w fun e w' => e = .returned (.tuple #[]) ∧ w' = w := by
  have hl := run_call_load (P := Try.prog) Try.func78 (by kernel_rfl) (by kernel_rfl) (by kernel_rfl) .u32 (by kernel_rfl) h0
  have hnot : ∀ (x : Bool) (w : World), (Op.unary .not (.bool x)).run Try.prog w = .ok (.bool (!x)) w := fun _ _ => rfl
  go_enter Try.func50, Try.ntmps50
  go_wp2
  go_end0
  exact ⟨rfl, rfl⟩
theorem load_any (a : Addr) (z : Int) (w : World) (h0 : w.cell? a = some (.int .i64 z)) :
    Calls Try.prog 39 #[.pointer (some a)] w fun e w' => e = .returned (.int .i64 z) ∧ w' = w := by
  have hl := run_call_load (P := Try.prog) Try.func53 (by kernel_rfl) (by kernel_rfl) (by kernel_rfl) .i64 (by kernel_rfl) h0
  go_enter Try.func39, Try.ntmps39
  go_wp2
  go_ret
  exact ⟨rfl, rfl⟩
set_option maxRecDepth 100000 in
theorem value_any (b o yb yo : Nat) (z : Int) (w : World) (h0 : w.cell? ⟨b, o, none⟩ = some (.int .u32 1)) (h3 : w.cell? ⟨b, o + 3, none⟩ = some (.pointer (some ⟨yb, yo, none⟩))) (hz : w.cell? ⟨yb, yo, none⟩ = some (.int .i64 z)) (hb : b < w.heap.size) (hyb : yb < w.heap.size) :
    Calls Try.prog 20 #[.pointer (some ⟨b, o, none⟩)] w fun e w' => e = .returned (.int .i64 z) ∧ ∃ ob, w' = w.alloc ob := by
  have hmf : ∀ (fn : Fn) (first cap : Array Value) (w : World), (Instr.makeFunc fn first cap).run Try.prog w = .ok (.func fn first cap) w := fun _ _ _ _ => rfl
  have c37 : Calls Try.prog 37 #[.pointer (some ⟨b, o, none⟩)] w fun e w' => e = .returned (.pointer (some ⟨yb, yo, none⟩)) ∧ w' = w.alloc (.cells #[.pointer (some ⟨b, o, none⟩)] 34) := by
    have a0 : (w.alloc (.cells #[.pointer (some ⟨b, o, none⟩)] 34)).cell? ⟨b, o, none⟩ = some (.int .u32 1) := by rw [World.cell?_alloc_past _ _ _ hb]; exact h0
    have a3 : (w.alloc (.cells #[.pointer (some ⟨b, o, none⟩)] 34)).cell? ⟨b, o + 3, none⟩ = some (.pointer (some ⟨yb, yo, none⟩)) := by rw [World.cell?_alloc_past _ _ _ hb]; exact h3
    go_enter Try.func37, Try.ntmps37
    go_wp2_with (go_at_call 50; refine (do_done _ _ _ a0).mono ?_; rintro e w' ⟨rfl, rfl⟩)
    go_ret
    exact ⟨rfl, rfl⟩
  have az : (w.alloc (.cells #[.pointer (some ⟨b, o, none⟩)] 34)).cell? ⟨yb, yo, none⟩ = some (.int .i64 z) := by rw [World.cell?_alloc_past _ _ _ hyb]; exact hz
  go_enter Try.func20, Try.ntmps20
  go_wp2_with (first
    | (go_at_call 37; refine c37.mono ?_; clear c37; rintro e w' ⟨rfl, rfl⟩)
    | (go_at_call 39; refine (load_any _ _ _ az).mono ?_; rintro e w' ⟨rfl, rfl⟩))
  go_ret
  exact ⟨rfl, _, rfl⟩
end Go.Proofs.Ytkbbpjknakajeaa
