/- The document's Unstick over a tape: what stands, and the words of a padding. -/
import Derived.Test.YtlaogoehmndcjaaGreatDoorTpE
import Derived.Test.YtlaogoehmndcjaaGreatDoorDocE
import Derived.Test.YtlaogoehmndcjaaGreatDoorDocF
set_option linter.unusedVariables false
namespace Go.Proofs.YtlaogoehmndcjaaGreatDoor.Sy
open Go Go.RowKit Go.Lib Go.Base Go.Pr Go.Proofs.YtlaogoehmndcjaaGreatDoor.Ba
theorem wordsU (n o s st t : Int) (hn : -2147483648 ≤ n ∧ n < 2147483648) (ho : -2147483648 ≤ o ∧ o < 2147483648) (hs : -2147483648 ≤ s ∧ s < 2147483648) (hst : -2147483648 ≤ st ∧ st < 2147483648) (ht : -2147483648 ≤ t ∧ t < 2147483648) (w : World) : Calls Tryz.prog 75 #[.agg #[.int .i32 n, .int .u8 0, .int .u8 0, .int .u16 0, .int .i32 o, .int .i32 s, .int .i32 st, .int .i32 t, .int .u64 0]] w fun e w' => e = .returned (.agg #[.int .u64 (u32 n), .int .u64 (u32 o + 4294967296 * u32 s), .int .u64 (u32 st + 4294967296 * u32 t), .int .u64 0]) ∧ Below w.heap.size w w' := by
  have c := wordsR n o s st t hn ho hs hst ht (N := n % 18446744073709551616) (by rw [IntKind.wrap_u64]) (by omega) (O := o % 18446744073709551616) (by rw [IntKind.wrap_u64]) (by omega) (S := s % 18446744073709551616) (by rw [IntKind.wrap_u64]) (by omega) (ST := st % 18446744073709551616) (by rw [IntKind.wrap_u64]) (by omega) (TT := t % 18446744073709551616) (by rw [IntKind.wrap_u64]) (by omega) w
  have e1 : ∀ x : Int, x % 18446744073709551616 % 4294967296 = u32 x := by intro x; unfold u32; omega
  rw [e1, e1, e1, e1, e1] at c
  exact c
/-- what Unstick answers -/
def unsV : Pr Tld UO → Value → Prop
  | .done o, v => ∃ ev : Int, ev ≠ 10 ∧ v = .tuple #[.int .i64 o.1, .int .i64 o.2, .int .i64 ev]
  | .ask o _ _, v => v = .tuple #[.int .i64 o.1, .int .i64 o.2, .int .i64 10]
theorem blk7 {w : World} {b : Nat} {t : TypeId} {v0 v1 v2 v3 v4 v5 v6 : Value} (h : w.heap[b]? = some (.cells #[v0, v1, v2, v3, v4, v5, v6] t (0, 0))) : w.cell? ⟨b, 0, none⟩ = some v0 ∧ w.cell? ⟨b, 1, none⟩ = some v1 ∧ w.cell? ⟨b, 2, none⟩ = some v2 ∧ w.cell? ⟨b, 3, none⟩ = some v3 ∧ w.cell? ⟨b, 4, none⟩ = some v4 ∧ w.cell? ⟨b, 5, none⟩ = some v5 ∧ w.cell? ⟨b, 6, none⟩ = some v6 := by
  refine ⟨?_, ?_, ?_, ?_, ?_, ?_, ?_⟩ <;> simp [World.cell?, h]
/-- the box of the log stands, and the tape -/
structure UB (w wr : World) (X : Nat) (base term mtu subs ini ses str : Int) (tb : Nat) (ga : Option Addr) (cap : Nat) (L : List Tld) (b : Nat) (want : Option Acc) : Prop where
  box : wr.heap[X]? = some (.cells #[.int .i64 base, .int .i64 term, .int .i64 mtu, .int .i64 subs, .int .i32 ini, .int .i32 ses, .int .i32 str] 23)
  tp : TpK w wr tb ga cap L b want
  lt : tb < X
section
variable {w wr wr' : World} {X : Nat} {base term mtu subs ini ses str : Int} {tb : Nat} {ga : Option Addr} {cap : Nat} {L : List Tld} {b b' : Nat} {want want' : Option Acc}
theorem UB.below (h : UB w wr X base term mtu subs ini ses str tb ga cap L b want) (hb : Below wr.heap.size wr wr') : UB w wr' X base term mtu subs ini ses str tb ga cap L b want :=
  ⟨(hb.block X (Array.getElem?_eq_some_iff.1 h.box).1).trans h.box, h.tp.below hb (Nat.le_refl _), h.lt⟩
theorem UB.step (h : UB w wr X base term mtu subs ini ses str tb ga cap L b want) (hk : TpK wr wr' tb ga cap L b' want') : UB w wr' X base term mtu subs ini ses str tb ga cap L b' want' :=
  ⟨(hk.2.block X (Array.getElem?_eq_some_iff.1 h.box).1 (by have := h.lt; omega)).trans h.box, h.tp.trans hk, h.lt⟩
theorem UB.drew (h : UB w wr X base term mtu subs ini ses str tb ga cap L b want) (n : Nat) : UB w (wr.drewN n) X base term mtu subs ini ses str tb ga cap L b want :=
  h.below (below_drewN n (Below.refl _ _))
theorem UB.cells (h : UB w wr X base term mtu subs ini ses str tb ga cap L b want) : wr.cell? ⟨X, 0, none⟩ = some (.int .i64 base) ∧ wr.cell? ⟨X, 1, none⟩ = some (.int .i64 term) ∧ wr.cell? ⟨X, 2, none⟩ = some (.int .i64 mtu) ∧ wr.cell? ⟨X, 3, none⟩ = some (.int .i64 subs) ∧ wr.cell? ⟨X, 4, none⟩ = some (.int .i32 ini) ∧ wr.cell? ⟨X, 5, none⟩ = some (.int .i32 ses) ∧ wr.cell? ⟨X, 6, none⟩ = some (.int .i32 str) := blk7 h.box
theorem UB.new (h : TpS w tb ga cap L b want) (hX : w.heap.size = X) : UB w (w.alloc (.cells #[.int .i64 base, .int .i64 term, .int .i64 mtu, .int .i64 subs, .int .i32 ini, .int .i32 ses, .int .i32 str] 23)) X base term mtu subs ini ses str tb ga cap L b want :=
  ⟨by rw [← hX]; exact heap_new _ _, h.refl.below ((Below.refl _ _).alloc (Nat.le_refl _) _) (Nat.le_refl _), hX ▸ h.lt⟩
end
/-- while it stores: the words, and the row of their places, stand too -/
structure UL (w wr : World) (X Y : Nat) (A1 A2 A3 : Int) (base term mtu subs ini ses str : Int) (tb : Nat) (ga : Option Addr) (cap : Nat) (L : List Tld) (b : Nat) (want : Option Acc) : Prop where
  ub : UB w wr X base term mtu subs ini ses str tb ga cap L b want
  wd : wr.heap[Y]? = some (.cells #[.int .u64 A1, .int .u64 A2, .int .u64 A3, .int .u64 0] 162)
  row : wr.heap[Y + 1]? = some (.cells #[.int .i64 1, .int .i64 2, .int .i64 3, .int .i64 0] 3)
  lt : tb < Y
theorem blk4 {w : World} {b : Nat} {t : TypeId} {v0 v1 v2 v3 : Value} (h : w.heap[b]? = some (.cells #[v0, v1, v2, v3] t (0, 0))) : w.cell? ⟨b, 0, none⟩ = some v0 ∧ w.cell? ⟨b, 1, none⟩ = some v1 ∧ w.cell? ⟨b, 2, none⟩ = some v2 ∧ w.cell? ⟨b, 3, none⟩ = some v3 := by
  refine ⟨?_, ?_, ?_, ?_⟩ <;> simp [World.cell?, h]
section
variable {w wr wr' : World} {X Y : Nat} {A1 A2 A3 base term mtu subs ini ses str : Int} {tb : Nat} {ga : Option Addr} {cap : Nat} {L : List Tld} {b b' : Nat} {want want' : Option Acc}
theorem UL.step (h : UL w wr X Y A1 A2 A3 base term mtu subs ini ses str tb ga cap L b want) (hk : TpK wr wr' tb ga cap L b' want') : UL w wr' X Y A1 A2 A3 base term mtu subs ini ses str tb ga cap L b' want' :=
  ⟨h.ub.step hk, (hk.2.block Y (Array.getElem?_eq_some_iff.1 h.wd).1 (by have := h.lt; omega)).trans h.wd, (hk.2.block (Y + 1) (Array.getElem?_eq_some_iff.1 h.row).1 (by have := h.lt; omega)).trans h.row, h.lt⟩
theorem UL.new (h : UB w wr X base term mtu subs ini ses str tb ga cap L b want) (hY : wr.heap.size = Y) : UL w ((wr.alloc (.cells #[.int .u64 A1, .int .u64 A2, .int .u64 A3, .int .u64 0] 162)).alloc (.cells #[.int .i64 1, .int .i64 2, .int .i64 3, .int .i64 0] 3)) X Y A1 A2 A3 base term mtu subs ini ses str tb ga cap L b want :=
  ⟨h.below (((Below.refl _ _).alloc (Nat.le_refl _) _).alloc (by simp) _), (Below.heap_alloc _ _ _ (by simp; omega)).trans (by rw [← hY]; exact heap_new _ _), by
    have e : (wr.alloc (.cells #[.int .u64 A1, .int .u64 A2, .int .u64 A3, .int .u64 0] 162)).heap.size = Y + 1 := by rw [← hY]; simp
    rw [← e]; exact heap_new _ _, by have := h.tp.1.lt; have h2 := h.lt; have := (Array.getElem?_eq_some_iff.1 h.box).1; omega⟩
end
theorem uns_nums (base term mtu subs ini ses str : Int) (hl : LogOk base term mtu subs) (hni : -2147483648 ≤ ini ∧ ini < 2147483648) (pos : Int) (hpos : 0 ≤ pos ∧ pos < term * 2147483648) (q off p3 trm part tat : Int) (hq : pos / term = q) (ho : pos % term = off) (h3 : q % 3 = p3) (htr : s32 (ini + q) = trm) (hpa : base + term * p3 = part) (hta : base + 3 * term + 8 * p3 = tat) : (0 ≤ q ∧ q < 2147483648) ∧ (0 ≤ off ∧ off < term) ∧ (0 ≤ p3 ∧ p3 < 3) ∧ (pos ≤ 17592186044416) ∧ (0 ≤ part ∧ part ≤ 200000) ∧ (0 ≤ tat ∧ tat ≤ 200000) ∧ (-2147483648 ≤ trm ∧ trm < 2147483648) ∧ (∀ W : World, Calls Tryz.prog 68 #[.int .i64 pos, .int .i32 ini, .int .i64 term] W fun e w' => e = .returned (.tuple #[.int .i32 trm, .int .i64 0]) ∧ w' = W) ∧ (∀ W : World, Calls Tryz.prog 69 #[.agg #[.int .i64 base, .int .i64 term, .int .i64 mtu, .int .i64 subs, .int .i32 ini, .int .i32 ses, .int .i32 str], .int .i64 p3] W fun e w' => e = .returned (.int .i64 part) ∧ Below W.heap.size W w') ∧ (∀ W : World, Calls Tryz.prog 70 #[.agg #[.int .i64 base, .int .i64 term, .int .i64 mtu, .int .i64 subs, .int .i32 ini, .int .i32 ses, .int .i32 str], .int .i64 p3] W fun e w' => e = .returned (.int .i64 tat) ∧ Below W.heap.size W w') ∧ (IntKind.i64.wrap (pos.tdiv term) = q) ∧ (IntKind.i64.wrap (pos.tmod term) = off) ∧ (pos.tdiv term = q) ∧ (pos.tmod term = off) ∧ (q.tmod 3 = p3) ∧ (IntKind.i64.wrap q = q) ∧ (IntKind.i64.wrap off = off) ∧ (IntKind.i64.wrap p3 = p3) ∧ (IntKind.i64.wrap (part + off) = part + off) ∧ (¬ term = 0) ∧ (¬ pos < 0) ∧ (¬ pos ≥ term * 2147483648) := by
  have hb : 256 ≤ term ∧ term ≤ 8192 ∧ 0 ≤ base ∧ base ≤ 131072 := by obtain ⟨h1, h2⟩ := hl; rcases h1 with h1 | h1 | h1 | h1 | h1 | h1 <;> omega
  have hq1 : 0 ≤ q ∧ q < 2147483648 := by rw [← hq]; exact ⟨Int.ediv_nonneg hpos.1 (by omega), Int.ediv_lt_of_lt_mul (by omega) (by rw [Int.mul_comm]; exact hpos.2)⟩
  have ho1 : 0 ≤ off ∧ off < term := by rw [← ho]; exact ⟨Int.emod_nonneg _ (by omega), Int.emod_lt_of_pos _ (by omega)⟩
  have h31 : 0 ≤ p3 ∧ p3 < 3 := by omega
  have hpos2 : pos ≤ 17592186044416 := by omega
  have hpa1 : 0 ≤ part ∧ part ≤ 200000 := by
    have : p3 = 0 ∨ p3 = 1 ∨ p3 = 2 := by omega
    rcases this with h | h | h <;> subst h <;> omega
  have hta1 : 0 ≤ tat ∧ tat ≤ 200000 := by omega
  have htr1 : -2147483648 ≤ trm ∧ trm < 2147483648 := by rw [← htr]; unfold s32; omega
  have c68 := fun W => termR pos ini term hl.1 hni ⟨hpos.1, by omega⟩ W
  have c69 := fun W => partAtR_any ⟨base, term, mtu, subs, ini, ses, str⟩ hl p3 h31.1 h31.2 W
  have c70 := fun W => tailAtR ⟨base, term, mtu, subs, ini, ses, str⟩ hl p3 h31.1 h31.2 W
  unfold Lg.val at c69 c70
  dsimp only at c69 c70
  rw [hq, htr] at c68
  rw [hpa] at c69
  rw [hta] at c70
  have r1 : IntKind.i64.wrap (pos.tdiv term) = q := by rw [Int.tdiv_eq_ediv_of_nonneg (by omega), hq, IntKind.wrap_i64]; omega
  have r2 : IntKind.i64.wrap (pos.tmod term) = off := by rw [Int.tmod_eq_emod_of_nonneg (by omega), ho, IntKind.wrap_i64]; omega
  have r1' : pos.tdiv term = q := by rw [Int.tdiv_eq_ediv_of_nonneg (by omega), hq]
  have r2' : pos.tmod term = off := by rw [Int.tmod_eq_emod_of_nonneg (by omega), ho]
  have r3 : q.tmod 3 = p3 := by rw [Int.tmod_eq_emod_of_nonneg (by omega), h3]
  have r4 : IntKind.i64.wrap q = q := by rw [IntKind.wrap_i64]; omega
  have r5 : IntKind.i64.wrap off = off := by rw [IntKind.wrap_i64]; omega
  have r6 : IntKind.i64.wrap p3 = p3 := by rw [IntKind.wrap_i64]; omega
  have r7 : IntKind.i64.wrap (part + off) = part + off := by rw [IntKind.wrap_i64]; omega
  have r8 : ¬ term = 0 := by omega
  have r9 : ¬ pos < 0 := by omega
  have r10 : ¬ pos ≥ term * 2147483648 := by omega
  exact ⟨hq1, ho1, h31, hpos2, hpa1, hta1, htr1, c68, c69, c70, r1, r2, r1', r2', r3, r4, r5, r6, r7, r8, r9, r10⟩
end Go.Proofs.YtlaogoehmndcjaaGreatDoor.Sy
