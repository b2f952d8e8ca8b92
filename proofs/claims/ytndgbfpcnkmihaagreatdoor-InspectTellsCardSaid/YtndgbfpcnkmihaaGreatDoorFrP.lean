/- The frames of a log in bytes, plainly: records, one behind the other, part by part. -/
import Derived.Test.YtndgbfpcnkmihaaGreatDoorSy3
import Derived.Test.YtndgbfpcnkmihaaGreatDoorSame
namespace Go.Proofs.YtndgbfpcnkmihaaGreatDoor.Sy
open Go Go.RowKit Go.AS Go.Base Go.Proofs.YtndgbfpcnkmihaaGreatDoor.Ba Go.Proofs.YtndgbfpcnkmihaaGreatDoor
/-- the number of eight bytes at a place -/
def n8 (B : Nat → Nat) (x : Int) : Int := ((numF B x.toNat 8 : Nat) : Int)
theorem n8_bd {B : Nat → Nat} (hB : ∀ j, B j < 256) (x : Int) : 0 ≤ n8 B x ∧ n8 B x < 18446744073709551616 := num8_bd hB _
def lenF (B : Nat → Nat) (x : Int) : Int := s32 (n8 B x % 4294967296)
def sttF (f0 f3 : Int) : Int := if f0 < 0 then 1 else if f3 = 0 then 3 else 2
/-- the frame that lies at x, of part p, from off on -/
def snF (B : Nat → Nat) (p off x : Int) : Sn :=
  ⟨p, off, lenF B x, n8 B x / 4294967296 % 256, n8 B x / 1099511627776 % 256, n8 B x / 281474976710656, s32 (n8 B (x + 8) % 4294967296), s32 (n8 B (x + 8) / 4294967296), s32 (n8 B (x + 16) % 4294967296), s32 (n8 B (x + 16) / 4294967296), n8 B (x + 24), sttF (lenF B x) (n8 B x / 281474976710656)⟩
/-- how far the next frame is; 0: none -/
def szA (n left : Int) : Int := if n < 32 ∨ alnI n > left then 0 else alnI n
def szI (L left : Int) : Int := szA (if L < 0 then -L else L) left
theorem szA_bd (n left : Int) (h : szA n left ≠ 0) : 32 ≤ szA n left ∧ szA n left ≤ left ∧ szA n left % 32 = 0 := by
  unfold szA at h ⊢
  by_cases c : n < 32 ∨ alnI n > left
  · rw [if_pos c] at h; exact absurd rfl h
  · rw [if_neg c]
    rw [not_or] at c
    unfold alnI at c ⊢
    omega
theorem szI_bd (L left : Int) (h : szI L left ≠ 0) : 32 ≤ szI L left ∧ szI L left ≤ left ∧ szI L left % 32 = 0 := szA_bd _ _ h
theorem szA_0 {n left : Int} (h : n < 32 ∨ alnI n > left) : szA n left = 0 := if_pos h
theorem szA_1 {n left : Int} (a : ¬ n < 32) (b : ¬ alnI n > left) : szA n left = alnI n ∧ alnI n ≠ 0 := ⟨if_neg (by rw [not_or]; exact ⟨a, b⟩), by unfold alnI; omega⟩
/-- the frames of part p from off on -/
def wkF (l : Lg) (B : Nat → Nat) (p : Int) : Nat → Int → List Sn
  | 0, _ => []
  | n + 1, off => if off + 32 ≤ l.term ∧ szI (lenF B (l.base + l.term * p + off)) (l.term - off) ≠ 0 then
      snF B p off (l.base + l.term * p + off) :: wkF l B p n (off + szI (lenF B (l.base + l.term * p + off)) (l.term - off)) else []
/-- a frame's cells -/
def Sn.cells (x : Sn) : List Value := [.int .i64 x.part, .int .i64 x.off, .int .i32 x.len, .int .u8 x.r3, .int .u8 x.r4, .int .u16 x.r5, .int .i32 x.r6, .int .i32 x.r7, .int .i32 x.r8, .int .i32 x.r9, .int .u64 x.r10, .int .i64 x.state]
def rowS (l : List Sn) : List Value := (l.map Sn.cells).flatten
theorem rowS_snoc (l : List Sn) (x : Sn) : rowS (l ++ [x]) = rowS l ++ Sn.cells x := by simp [rowS]
theorem rowS_app (l m : List Sn) : rowS (l ++ m) = rowS l ++ rowS m := by simp [rowS]
theorem wkF_len (l : Lg) (B : Nat → Nat) (p : Int) : ∀ (n : Nat) (off : Int), 0 ≤ off → ((wkF l B p n off).length : Int) * 32 ≤ max 0 (l.term - off)
  | 0, off, _ => by simp [wkF]; omega
  | n + 1, off, h => by
    unfold wkF
    split
    · rename_i hc
      have hs := szI_bd _ _ hc.2
      have ih := wkF_len l B p n (off + szI (lenF B (l.base + l.term * p + off)) (l.term - off)) (by omega)
      simp only [List.length_cons]
      generalize szI (lenF B (l.base + l.term * p + off)) (l.term - off) = z at *
      omega
    · simp; omega
theorem size_at (L left : Int) (h0 : -2147483648 ≤ L) (h1 : L ≤ 2147483647) (w : World) : Calls Tryz.prog 32 #[.int .i32 L, .int .i64 left] w fun e w' => e = .returned (.int .i64 (szI L left)) ∧ Below w.heap.size w w' := by
  by_cases g : L < 0
  · have e : szI L left = szA (-L) left := by unfold szI; rw [if_pos g]
    by_cases a : -L < 32
    · rw [e, szA_0 (n := (-L)) (left := left) (.inl a)]; exact szP0 L left h0 h1 (by omega) a w
    · by_cases b : alnI (-L) > left
      · rw [e, szA_0 (n := (-L)) (left := left) (.inr b)]; exact szP1 L left h0 h1 (by omega) a b w
      · rw [e, (szA_1 (n := (-L)) (left := left) a b).1]; exact szP2 L left h0 h1 (by omega) a b w
  · have e : szI L left = szA L left := by unfold szI; rw [if_neg g]
    by_cases a : L < 32
    · rw [e, szA_0 (n := L) (left := left) (.inl a)]; exact szP3 L left h0 h1 (by omega) a w
    · by_cases b : alnI L > left
      · rw [e, szA_0 (n := L) (left := left) (.inr b)]; exact szP4 L left h0 h1 (by omega) a b w
      · rw [e, (szA_1 (n := L) (left := left) a b).1]; exact szP5 L left h0 h1 (by omega) a b w
/-- the document says -1 where there is none -/
def szD (L left : Int) : Int := if szI L left = 0 then -1 else szI L left
theorem sizeR_at (L left : Int) (h0 : -2147483648 ≤ L) (h1 : L ≤ 2147483647) (w : World) : Calls Tryz.prog 31 #[.int .i32 L, .int .i64 left] w fun e w' => e = .returned (.int .i64 (szD L left)) ∧ Below w.heap.size w w' := by
  by_cases g : L < 0
  · have e : szI L left = szA (-L) left := by unfold szI; rw [if_pos g]
    by_cases a : -L < 32
    · rw [show szD L left = -1 by unfold szD; rw [e, szA_0 (n := (-L)) (left := left) (.inl a), if_pos rfl]]; exact szR0 L left h0 h1 g a w
    · by_cases b : alnI (-L) > left
      · rw [show szD L left = -1 by unfold szD; rw [e, szA_0 (n := (-L)) (left := left) (.inr b), if_pos rfl]]; exact szR1 L left h0 h1 g a b w
      · obtain ⟨q1, q2⟩ := szA_1 (n := (-L)) (left := left) a b
        rw [show szD L left = alnI (-L) by unfold szD; rw [e, q1, if_neg q2]]; exact szR2 L left h0 h1 g a b w
  · have e : szI L left = szA L left := by unfold szI; rw [if_neg g]
    by_cases a : L < 32
    · rw [show szD L left = -1 by unfold szD; rw [e, szA_0 (n := L) (left := left) (.inl a), if_pos rfl]]; exact szR3 L left h0 h1 g a w
    · by_cases b : alnI L > left
      · rw [show szD L left = -1 by unfold szD; rw [e, szA_0 (n := L) (left := left) (.inr b), if_pos rfl]]; exact szR4 L left h0 h1 g a b w
      · obtain ⟨q1, q2⟩ := szA_1 (n := L) (left := left) a b
        rw [show szD L left = alnI L by unfold szD; rw [e, q1, if_neg q2]]; exact szR5 L left h0 h1 g a b w
/-- the document's frame at a place -/
theorem frameAt {B : Nat → Nat} (hB : ∀ j, B j < 256) {bb bo bn bc : Nat} (hcap : bn ≤ bc) (hbn : bn < 4611686018427387904) (x : Int) (h0 : 0 ≤ x) (h1 : x + 32 ≤ bn) (w : World) (hlt : bb < w.heap.size) (hr : ReadsB w bb bo bn B) :
    Calls Tryz.prog 29 #[.slice (some ⟨bb, bo, none⟩) bn bc, .int .i64 x] w fun e w' => e = .returned (.agg #[.int .i32 (snF B 0 0 x).len, .int .u8 (snF B 0 0 x).r3, .int .u8 (snF B 0 0 x).r4, .int .u16 (snF B 0 0 x).r5, .int .i32 (snF B 0 0 x).r6, .int .i32 (snF B 0 0 x).r7, .int .i32 (snF B 0 0 x).r8, .int .i32 (snF B 0 0 x).r9, .int .u64 (snF B 0 0 x).r10]) ∧ Below w.heap.size w w' :=
  frmR0 B hB bb bo bn bc hcap hbn x h0 h1 w hlt hr w rfl
theorem stateAt (f0 f1 f2 f3 f4 f5 f6 f7 f8 : Int) (w : World) : Calls Tryz.prog 57 #[.agg #[.int .i32 f0, .int .u8 f1, .int .u8 f2, .int .u16 f3, .int .i32 f4, .int .i32 f5, .int .i32 f6, .int .i32 f7, .int .u64 f8]] w fun e w' => e = .returned (.int .i64 (sttF f0 f3)) ∧ Below w.heap.size w w' := by
  unfold sttF
  by_cases g : f0 < 0
  · rw [if_pos g]; exact stt0 f0 f1 f2 f3 f4 f5 f6 f7 f8 g w
  · by_cases g2 : f3 = 0
    · rw [if_neg g, if_pos g2]; exact stt1 f0 f1 f2 f3 f4 f5 f6 f7 f8 g g2 w
    · rw [if_neg g, if_neg g2]; exact stt2 f0 f1 f2 f3 f4 f5 f6 f7 f8 g g2 w
end Go.Proofs.YtndgbfpcnkmihaaGreatDoor.Sy
