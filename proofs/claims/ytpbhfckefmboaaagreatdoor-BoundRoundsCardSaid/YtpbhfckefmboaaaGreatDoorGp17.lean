/- WsC, WyA, WrtPlain, OwnKit, WyB: in one text. -/
import Derived.Test.YtpbhfckefmboaaaGreatDoorGp16
import Derived.Laws.DeepBits32
import Derived.WalkKit
import Derived.Deep.QuietTactic
import Derived.BigQuiet
import Derived.BigRegion
import Derived.WalkSpells
import Derived.Lib.Hide
import Derived.Test.YtpbhfckefmboaaaGreatDoorGp04
import Derived.Test.YtpbhfckefmboaaaGreatDoorGp05
import Derived.Laws.AppendOwn
import Derived.WalkSmall
import Derived.Deep.MidRow
import Derived.Test.YtpbhfckefmboaaaGreatDoorGp11
import Derived.Handy
set_option linter.unusedVariables false
set_option linter.unusedSimpArgs false
set_option linter.unusedSectionVars false
namespace Go.Proofs.YtpbhfckefmboaaaGreatDoor
open Go Go.RowKit
theorem mixedC : Tryz.prog.follows .mixedOrders = true := by kernel_rfl
theorem and31 (x : Nat) (hx : x < 18446744073709551616) : x &&& 18446744073709551584 = x - x % 32 := by
  apply Nat.eq_of_testBit_eq
  intro i
  rw [Nat.testBit_and]
  have e : x - x % 32 = 2 ^ 5 * (x / 2 ^ 5) := by omega
  have f : 18446744073709551584 = 2 ^ 5 * (2 ^ 59 - 1) := by decide
  rw [e, f, Nat.testBit_two_pow_mul, Nat.testBit_two_pow_mul, Nat.testBit_two_pow_sub_one, Nat.testBit_div_two_pow]
  by_cases h5 : 5 ≤ i
  · simp only [h5, decide_true, Bool.true_and]
    rw [show i - 5 + 5 = i by omega]
    by_cases h : i - 5 < 59
    · simp [h]
    · have : x.testBit i = false := Nat.testBit_lt_two_pow (Nat.lt_of_lt_of_le hx (by
        have : 2 ^ 64 ≤ 2 ^ i := Nat.pow_le_pow_right (by omega) (by omega)
        simpa using this))
      simp [this]
  · simp [h5]
theorem wrap_i64_small (n : Int) (h0 : 0 ≤ n) (h1 : n < 9223372036854775808) : IntKind.i64.wrap n = n := by
  simp [IntKind.wrap, IntKind.bits, IntKind.signed]
  split <;> omega
theorem i64_andNot31 (x : Nat) (hx : x < 9223372036854775808) : bits .andNot .i64 (x : Int) 31 = ((x - x % 32 : Nat) : Int) := by
  show IntKind.i64.wrap ((BitVec.ofInt 64 (x : Int) &&& ~~~BitVec.ofInt 64 31).toNat : Int) = _
  have h1 : (BitVec.ofInt 64 31).toNat = 31 := by decide
  rw [BitVec.toNat_and, BitVec.toNat_not, ofInt_u64 x (by omega), h1, show 2 ^ 64 - 1 - 31 = 18446744073709551584 by decide, and31 x (by omega)]
  exact wrap_i64_small _ (by omega) (by omega)
/-- the next multiple of 32 -/
def aln (n : Nat) : Nat := (n + 31) / 32 * 32
theorem pow32 (w : World) : Calls Tryz.prog 106 #[.int .i64 32] w fun e w' => e = .returned (.bool true) ∧ w' = w := by
  go_enter Tryz.func106, Tryz.ntmps106
  go_wp2
  go_ret
  exact ⟨rfl, rfl⟩
set_option maxHeartbeats 1000000 in
theorem align (n : Nat) (hn : n ≤ 2147483648) (w : World) : Calls Tryz.prog 162 #[.int .i64 n, .int .i64 32] w fun e w' => e = .returned (.tuple #[.int .i64 (aln n : Nat), .int .i64 0]) ∧ w' = w := by
  have key := i64_andNot31 n (by omega)
  have h0 : ¬ (n : Int) < 0 := by omega
  have h1 : ¬ (n : Int) > 4611686018427387904 := by omega
  by_cases h : n % 32 = 0
  · have e : aln n = n := by unfold aln; omega
    rw [h, Nat.sub_zero] at key
    go_enter Tryz.func162, Tryz.ntmps162
    go_wp2_with (first | (go_at_call 106; refine (pow32 _).mono ?_; rintro e w' ⟨rfl, rfl⟩) | simp only)
    go_ret2
    refine ⟨?_, rfl⟩
    show Ending.returned (.tuple #[.int .i64 (n : Int), .int .i64 0]) = _
    first | rfl | rw [e]
  · have e : ((aln n : Nat) : Int) = ((n - n % 32 : Nat) : Int) + 32 := by unfold aln; omega
    have h2 : ¬ ((n - n % 32 : Nat) : Int) = (n : Int) := by omega
    have h3 : ¬ (((n - n % 32 : Nat) : Int) + 32) < 0 := by omega
    have h4 : ¬ (((n - n % 32 : Nat) : Int) + 32) > 4611686018427387904 := by omega
    go_enter Tryz.func162, Tryz.ntmps162
    go_wp2_with (first | (go_at_call 106; refine (pow32 _).mono ?_; rintro e w' ⟨rfl, rfl⟩) | simp only)
    go_ret2
    refine ⟨?_, rfl⟩
    show Ending.returned (.tuple #[.int .i64 (((n - n % 32 : Nat) : Int) + 32), .int .i64 0]) = _
    first | rfl | rw [e]
end Go.Proofs.YtpbhfckefmboaaaGreatDoor
namespace Go.Proofs.YtpbhfckefmboaaaGreatDoor.Ba
open Go Go.RowKit Go.Lib Go.Base
set_option maxHeartbeats 1600000 in
theorem hsize_any (n : Nat) (hn : n ≤ 131072) (w : World) : Calls Tryz.prog 145 #[.int .i64 n, .int .i64 32, .int .i64 32] w fun e w' => e = .returned (.tuple #[.int .i64 (aln (n + 32) : Nat), .int .i64 0]) ∧ w' = w := by
  have h0 : ¬ (n : Int) < 0 := by omega
  have h1 : ¬ (n : Int) > 131072 := by omega
  have c := fun W => align (n + 32) (by omega) W
  rw [Int.natCast_add] at c
  have hw : IntKind.i64.wrap ((n : Int) + 32) = (n : Int) + 32 := by rw [IntKind.wrap_i64]; omega
  go_enter Tryz.func145, Tryz.ntmps145
  go_wp2_with (go_at_call 162; refine (c _).mono ?_; clear c; rintro e w' ⟨rfl, hw⟩; subst hw)
  go_ret2
  exact ⟨rfl, rfl⟩
set_option maxHeartbeats 1600000 in
theorem fsize_any (n : Nat) (hn : n ≤ 131072) (w : World) : Calls Tryz.prog 113 #[.int .i64 n] w fun e w' => e = .returned (.tuple #[.int .i64 (aln (n + 32) : Nat), .int .i64 0]) ∧ w' = w := by
  have c := fun W => hsize_any n hn W
  go_enter Tryz.func113, Tryz.ntmps113
  go_wp2_with (go_at_call 145; refine (c _).mono ?_; clear c; rintro e w' ⟨rfl, hw⟩; subst hw)
  go_ret2
  exact ⟨rfl, rfl⟩
theorem Lg.ok.mtub {l : Lg} (h : l.ok) : 32 ≤ l.mtu ∧ l.mtu ≤ 1024 := by
  obtain ⟨-, -, h2, h3⟩ := h.bounds
  unfold Lg.ok LogOk at h
  omega
set_option maxHeartbeats 1600000 in
theorem hsize_no (x : Int) (hx : x < 0 ∨ x > 131072) (w : World) : Calls Tryz.prog 145 #[.int .i64 x, .int .i64 32, .int .i64 32] w fun e w' => e = .returned (.tuple #[.int .i64 0, .int .i64 1]) ∧ w' = w := by
  rcases hx with h | h
  · go_enter Tryz.func145, Tryz.ntmps145
    go_wp2
    go_ret2
    exact ⟨rfl, rfl⟩
  · have h0 : ¬ x < 0 := by omega
    go_enter Tryz.func145, Tryz.ntmps145
    go_wp2
    go_ret2
    exact ⟨rfl, rfl⟩
theorem fsize_all (x : Int) (w : World) : Calls Tryz.prog 113 #[.int .i64 x] w fun e w' => ∃ a b : Int, e = .returned (.tuple #[.int .i64 a, .int .i64 b]) ∧ w' = w := by
  by_cases hx : x < 0 ∨ x > 131072
  · have c := fun W => hsize_no x hx W
    clear hx
    go_enter Tryz.func113, Tryz.ntmps113
    go_wp2_with (go_at_call 145; refine (c _).mono ?_; clear c; rintro e w' ⟨rfl, hw⟩; subst hw)
    go_ret2
    exact ⟨_, _, rfl, rfl⟩
  · obtain ⟨n, rfl⟩ := Int.eq_ofNat_of_zero_le (show 0 ≤ x by omega)
    refine (fsize_any n (by omega) w).mono ?_
    rintro e w' ⟨rfl, h⟩
    exact ⟨_, _, rfl, h⟩
set_option maxHeartbeats 3200000 in
set_option maxRecDepth 100000 in
/-- what is needed, of a message that is not too long -/
theorem need_any (l : Lg) (h : l.ok) (n : Nat) (hn : (n : Int) ≤ l.term / 8) (w : World) : Calls Tryz.prog 107 #[l.val, .int .i64 n] w fun e w' => ∃ v : Int, e = .returned (.tuple #[.int .i64 v, .int .i64 0]) ∧ Below w.heap.size w w' := by
  have hb := h.bounds
  have hm := h.mtub
  have cC := fun W => cutsP l h hm n hn W
  clear h
  obtain ⟨base, term, mtu, subs, ini, ses, str⟩ := l
  unfold Lg.val at cC ⊢
  dsimp only at cC hb hm hn ⊢
  have c1 := fun x W => fsize_all x W
  have hz : ¬ mtu = 0 := by omega
  obtain ⟨W1, hW1⟩ : ∃ W1, w.alloc (.cells #[.int .i64 base, .int .i64 term, .int .i64 mtu, .int .i64 subs, .int .i32 ini, .int .i32 ses, .int .i32 str] 23) = W1 := ⟨_, rfl⟩
  obtain ⟨A, hA⟩ : ∃ A, w.heap.size = A := ⟨_, rfl⟩
  have u0 : W1.heap[A]? = some (.cells #[.int .i64 base, .int .i64 term, .int .i64 mtu, .int .i64 subs, .int .i32 ini, .int .i32 ses, .int .i32 str] 23 (0, 0)) := by rw [← hW1, ← hA]; exact heap_new _ _
  have u1 : Below A w W1 := by rw [← hW1, ← hA]; exact (Below.refl _ _).alloc (Nat.le_refl _) _
  have hs1 : W1.heap.size = A + 1 := by rw [← hW1, ← hA]; simp
  have HU := Lib.hid (And.intro u0 (And.intro u1 hs1))
  obtain ⟨b0, b1, b2, b3, b4, b5, b6⟩ := blk7 u0
  clear u0 u1 hs1
  have hw1 : IntKind.i64.wrap ((n : Int) - 1) = (n : Int) - 1 := by rw [IntKind.wrap_i64]; omega
  go_enter Tryz.func107, Tryz.ntmps107
  go_wp2_with (go_at_call 129; refine (cC _).mono ?_; clear cC; rintro e w2 ⟨v, rfl, hv, hB⟩
               have v0 := (hB.block A (by have := HU.out.2.2; omega)).trans HU.out.1
               obtain ⟨d0, d1, d2, d3, d4, d5, d6⟩ := blk7 v0
               have HB := Lib.hid (HU.out.2.1.trans (hB.mono (by have := HU.out.2.2; omega)))
               clear hB v0 hv)
  all_goals go_wp2_with (go_at_call 113; refine (c1 _ _).mono ?_; rintro e w3 ⟨fa, fb, rfl, hw3⟩; subst hw3)
  all_goals go_ret2
  all_goals exact ⟨⟨_, rfl⟩, HB.out⟩
set_option maxHeartbeats 3200000 in
set_option maxRecDepth 100000 in
/-- a message that is too long -/
theorem cuts_no (l : Lg) (h : l.ok) (n : Nat) (hn : (n : Int) > l.term / 8) (w : World) : Calls Tryz.prog 129 #[l.val, .int .i64 n] w fun e w' => e = .returned (.tuple #[.slice none 0 0, .int .i64 4]) ∧ Below w.heap.size w w' := by
  have c36 := fun W => check_ok l h W
  have c181 := fun W => maxMsg_any l h W
  clear h
  obtain ⟨base, term, mtu, subs, ini, ses, str⟩ := l
  unfold Lg.val at c36 c181 ⊢
  dsimp only at c36 c181 hn ⊢
  obtain ⟨q, hq⟩ : ∃ q, term / 8 = q := ⟨_, rfl⟩
  rw [hq] at c181 hn
  obtain ⟨W1, hW1⟩ : ∃ W1, w.alloc (.cells #[.int .i64 base, .int .i64 term, .int .i64 mtu, .int .i64 subs, .int .i32 ini, .int .i32 ses, .int .i32 str] 23) = W1 := ⟨_, rfl⟩
  obtain ⟨A, hA⟩ : ∃ A, w.heap.size = A := ⟨_, rfl⟩
  have u0 : W1.heap[A]? = some (.cells #[.int .i64 base, .int .i64 term, .int .i64 mtu, .int .i64 subs, .int .i32 ini, .int .i32 ses, .int .i32 str] 23 (0, 0)) := by rw [← hW1, ← hA]; exact heap_new _ _
  have u1 : Below A w W1 := by rw [← hW1, ← hA]; exact (Below.refl _ _).alloc (Nat.le_refl _) _
  have hs1 : W1.heap.size = A + 1 := by rw [← hW1, ← hA]; simp
  have HU := Lib.hid (And.intro u0 (And.intro u1 hs1))
  obtain ⟨b0, b1, b2, b3, b4, b5, b6⟩ := blk7 u0
  clear u0 u1 hs1
  have q0 : ¬ (n : Int) < 0 := by omega
  go_enter Tryz.func129, Tryz.ntmps129
  go_wp2_with (first
    | (go_at_call 49; refine (c36 _).mono ?_; clear c36; rintro e w2 ⟨rfl, hB⟩
       have v0 := (hB.block A (by have := HU.out.2.2; omega)).trans HU.out.1
       obtain ⟨d0, d1, d2, d3, d4, d5, d6⟩ := blk7 v0
       have HB := Lib.hid (And.intro v0 (And.intro (HU.out.2.1.trans (hB.mono (by have := HU.out.2.2; omega))) (show A + 1 ≤ w2.heap.size from Nat.le_trans (Nat.le_of_eq HU.out.2.2.symm) hB.size)))
       clear hB v0)
    | (go_at_call 178; refine (c181 _).mono ?_; clear c181; rintro e w3 ⟨rfl, hB⟩
       have HC := Lib.hid (HB.out.2.1.trans (hB.mono (by have := HB.out.2.2; omega)))
       clear hB))
  go_ret2
  exact ⟨rfl, by rw [hA]; exact HC.out⟩
theorem need_no (l : Lg) (h : l.ok) (n : Nat) (hn : (n : Int) > l.term / 8) (w : World) : Calls Tryz.prog 107 #[l.val, .int .i64 n] w fun e w' => e = .returned (.tuple #[.int .i64 0, .int .i64 4]) ∧ Below w.heap.size w w' := by
  have cC := fun W => cuts_no l h n hn W
  clear h hn
  obtain ⟨base, term, mtu, subs, ini, ses, str⟩ := l
  unfold Lg.val at cC ⊢
  dsimp only at cC ⊢
  obtain ⟨W1, hW1⟩ : ∃ W1, w.alloc (.cells #[.int .i64 base, .int .i64 term, .int .i64 mtu, .int .i64 subs, .int .i32 ini, .int .i32 ses, .int .i32 str] 23) = W1 := ⟨_, rfl⟩
  obtain ⟨b1, u0, s1⟩ := at_new hW1
  have HU := Lib.hid b1
  obtain ⟨m0, m1, m2, m3, m4, m5, m6⟩ := blk7 u0
  clear u0 b1
  go_enter Tryz.func107, Tryz.ntmps107
  go_wp2_with (go_at_call 129; refine (cC _).mono ?_; clear cC; rintro e w2 ⟨rfl, hB⟩; have HB := Lib.hid hB; clear hB)
  go_ret2
  exact ⟨rfl, HU.out.trans (HB.out.mono (by omega))⟩
end Go.Proofs.YtpbhfckefmboaaaGreatDoor.Ba
namespace Go.Base
open Go Go.Pr
/-- what an access tells a writer: a number, and whether it was stored -/
structure An where
  v : Int
  dn : Bool
structure Slt where
  part : Int
  term : Int
  off : Int
  size : Int
def noSlt : Slt := ⟨0, 0, 0, 0⟩
/-- a try: its slot, is there one, the position behind it, how it ended (10: it has not) -/
structure Ot where
  s : Slt
  has : Bool
  pos : Int
  e : Int
def addA (at_ v : Int) : Acc := ⟨3, at_, 8, v, 0, []⟩
def casA (at_ n old v : Int) : Acc := ⟨4, at_, n, old, v, []⟩
def writeA (at_ : Int) (b : List Nat) : Acc := ⟨6, at_, b.length, 0, 0, b⟩
/-- what it tells of itself while it has no slot, and with one -/
def wait0 : Ot := ⟨noSlt, false, 0, 10⟩
def waitS (s : Slt) : Ot := ⟨s, true, 0, 10⟩
def fsize (n : Int) : Int := (n + 32 + 31) / 32 * 32
def pack (t off : Int) : Int := u32 t * 4294967296 + off
/-- a frame's first word: its length, flags, type -/
def fw0 (len flags typ : Int) : Int := u32 len + 4294967296 * (256 * flags + 65536 * typ)
def fw1 (l : LogN) (off : Int) : Int := u32 off + 4294967296 * u32 l.ses
def fw2 (l : LogN) (term : Int) : Int := u32 l.str + 4294967296 * u32 term
/-- a header that is begun: its length with a minus -/
def headT (l : LogN) (o : Ot) (at_ len flags typ off term : Int) (k : Pr An Ot) : Pr An Ot :=
  .ask o (store at_ 8 (fw0 (-len) flags typ)) fun _ =>
  .ask o (store (at_ + 8) 8 (fw1 l off)) fun _ =>
  .ask o (store (at_ + 16) 8 (fw2 l term)) fun _ =>
  .ask o (store (at_ + 24) 8 0) fun _ => k
/-- bytes, eight at a time -/
def inT (o : Ot) (k : Pr An Ot) : Nat → Int → List Nat → Pr An Ot
  | 0, _, _ => k
  | f + 1, at_, b => if b = [] then k else .ask o (writeA at_ (b.take 8)) fun _ => inT o k f (at_ + 8) (b.drop 8)
def frameT (l : LogN) (o : Ot) (at_ len flags typ off term : Int) (b : List Nat) (k : Pr An Ot) : Pr An Ot :=
  headT l o at_ len flags typ off term (inT o (.ask o (store at_ 4 len) fun _ => k) 200 (at_ + 32) b)
/-- the log goes on: how that ended (fuel: as often as the tail is read) -/
def rotC (l : LogN) (o : Ot) (count : Int) (fin : Int → Pr An Ot) : Pr An Ot := .ask o (casA (l.M + 24) 4 count (count + 1)) fun _ => fin 0
def rotL (l : LogN) (o : Ot) (term count : Int) (fin : Int → Pr An Ot) : Nat → Pr An Ot
  | 0 => fin 0
  | f + 1 => .ask o (load (l.tailAt ((count + 1) % 3)) 8) fun x =>
      if s32 (x.v / 4294967296) ≠ s32 (term + 1 - 3) then rotC l o count fin
      else .ask o (casA (l.tailAt ((count + 1) % 3)) 8 x.v (pack (s32 (term + 1)) 0)) fun y => if y.dn then rotC l o count fin else rotL l o term count fin f
def rotT (l : LogN) (o : Ot) (term : Int) (fin : Int → Pr An Ot) : Pr An Ot :=
  if u32 (term - l.ini) + 1 ≥ 2147483648 then fin 7
  else .ask o (load (l.M + 40) 8) fun x => if s64 x.v < u32 (term - l.ini) - 1 then fin 5 else rotL l o term (u32 (term - l.ini)) fin 1000
/-- one that tripped -/
def tripT (l : LogN) (s : Slt) : Pr An Ot := rotT l (waitS s) s.term fun e => .done ⟨s, true, 0, if e = 0 ∨ e = 5 then 6 else e⟩
/-- what is looked at first: the count (0: it may be appended), or how it ends -/
def askT (l : LogN) (need : Int) (fin : Int → Pr An Ot) : Pr An Ot :=
  .ask wait0 (load (l.M + 32) 8) fun limit => .ask wait0 (load (l.M + 24) 4) fun c =>
    .ask wait0 (load (l.tailAt (u32 c.v % 3)) 8) fun raw =>
      if u32 (s32 (raw.v / 4294967296) - l.ini) ≠ u32 c.v then .done ⟨noSlt, false, 0, 6⟩
      else if u32 c.v ≥ 2147483648 then .done ⟨noSlt, false, 0, 7⟩
      else if u32 c.v * l.term + min (raw.v % 4294967296) l.term < s64 limit.v then fin (u32 c.v)
      else if u32 c.v * l.term + min (raw.v % 4294967296) l.term + need > l.term * 2147483648 then .done ⟨noSlt, false, 0, 7⟩
      else .done ⟨noSlt, false, 0, 5⟩
def endOf (l : LogN) (s : Slt) : Int := u32 (s.term - l.ini) * l.term + s.off + s.size
def slotOf (part need : Int) (raw : Int) : Slt := ⟨part, s32 (raw / 4294967296), raw % 4294967296, need⟩
/-- the frames of a message, the first one, or not -/
def framesT (l : LogN) (s : Slt) : Nat → Bool → Int → List Nat → Pr An Ot
  | 0, _, _, _ => .done ⟨s, true, endOf l s, 0⟩
  | f + 1, first, off, b =>
    if (b.length : Int) ≤ l.mtu then frameT l (waitS s) (l.partAt s.part + off) (32 + b.length) ((if first then 128 else 0) + 64) 1 off s.term b (.done ⟨s, true, endOf l s, 0⟩)
    else frameT l (waitS s) (l.partAt s.part + off) (32 + l.mtu) (if first then 128 else 0) 1 off s.term (b.take l.mtu.toNat) (framesT l s f false (off + fsize l.mtu) (b.drop l.mtu.toNat))
/-- what pads a term's end -/
def padEnd (l : LogN) (s : Slt) (k : Pr An Ot) : Pr An Ot :=
  if s.off < l.term then frameT l (waitS s) (l.partAt s.part + s.off) (l.term - s.off) 0 0 s.off s.term [] k else k
/-- how much a message needs: its frames -/
def needOf (l : LogN) : Nat → Int → Int
  | 0, n => fsize n
  | f + 1, n => if n > l.mtu then fsize l.mtu + needOf l f (n - l.mtu) else fsize n
def offerT (l : LogN) (b : List Nat) : Pr An Ot :=
  if ¬ l.ok then .done ⟨noSlt, false, 0, 1⟩
  else if (b.length : Int) > l.term / 8 then .done ⟨noSlt, false, 0, 4⟩
  else askT l (needOf l 40 b.length) fun count => .ask wait0 (addA (l.tailAt (count % 3)) (needOf l 40 b.length)) fun raw =>
    let s := slotOf (count % 3) (needOf l 40 b.length) raw.v
    if s.off + s.size > l.term then padEnd l s (tripT l s) else framesT l s 40 true s.off b
def claimT (l : LogN) (b : List Nat) (commit : Bool) : Pr An Ot :=
  if ¬ l.ok then .done ⟨noSlt, false, 0, 1⟩
  else if (b.length : Int) > l.mtu then .done ⟨noSlt, false, 0, 4⟩
  else askT l (fsize b.length) fun count => .ask wait0 (addA (l.tailAt (count % 3)) (fsize b.length)) fun raw =>
    let s := slotOf (count % 3) (fsize b.length) raw.v
    if s.off + s.size > l.term then padEnd l s (tripT l s)
    else
      let at_ := l.partAt s.part + s.off
      let fin : Pr An Ot := .ask (waitS s) (store at_ 4 (32 + b.length)) fun _ => .done ⟨s, true, endOf l s, 0⟩
      headT l (waitS s) at_ (32 + b.length) 192 1 s.off s.term (inT (waitS s) (if commit then fin else .ask (waitS s) (store (at_ + 4) 4 49152) fun _ => fin) 200 (at_ + 32) b)
structure OpN where
  kind : Int
  data : List Nat
def onceT (l : LogN) (o : OpN) : Pr An Ot :=
  if o.kind = 0 then offerT l o.data else if o.kind = 1 ∨ o.kind = 2 then claimT l o.data (o.kind = 1) else .done ⟨noSlt, false, 0, 1⟩
/-- how an act ended -/
structure Snt where
  pos : Int
  e : Int
  tries : Int
  s : Slt
  has : Bool
/-- what a writer tells of itself: how its acts ended, the slot of the one that is done now, is there one -/
structure WrO where
  sent : List Snt
  s : Slt
  has : Bool
/-- acts, one behind the other: tries that are left, the try's number (fuel: as many tries) -/
def writeT (l : LogN) : Nat → List OpN → Int → Int → List Snt → Pr An WrO
  | 0, _, _, _, out => .done ⟨out, noSlt, false⟩
  | _ + 1, [], _, _, out => .done ⟨out, noSlt, false⟩
  | f + 1, o :: ops, tries, n, out => (onceT l o).bind (fun w => ⟨out, w.s, w.has⟩) fun w =>
      if (w.e = 5 ∨ w.e = 6) ∧ tries > 0 then writeT l f (o :: ops) (tries - 1) (n + 1) out
      else writeT l f ops tries 1 (out ++ [⟨w.pos, w.e, n, w.s, w.has⟩])
end Go.Base
namespace Go.Base
open Go Go.RowKit
theorem own_cell {w : World} {base : Nat} {e : TypeId} {size n g cap : Nat} {xs : List Value} (h : w.ownsRow base e size (.slice (some ⟨g, 0, none⟩) n cap) n xs) {j : Nat} {v : Value} (hj : xs[j]? = some v) : w.cell? ⟨g, j, none⟩ = some v := by
  rcases h.2 with ⟨h1, _⟩ | ⟨g', cap', cur, h1, _, hg, hn, hm, hs, ht⟩
  · cases h1
  · cases h1
    have hl := h.1
    have hjl : j < xs.length := (List.getElem?_eq_some_iff.1 hj).1
    rw [← ht, List.getElem?_take_of_lt (by omega)] at hj
    simp only [World.cell?, hg]
    simpa using hj
theorem own_kept {w w' : World} {base s : Nat} {e : TypeId} {size n : Nat} {v : Value} {xs : List Value} (h : w.ownsRow base e size v n xs) (hs : w.heap.size ≤ s) (hb : Below s w w') : w'.ownsRow base e size v n xs := by
  refine h.kept (row := none) ⟨hb.os, hb.tape, hb.output, hb.size, fun k hk _ => hb.block k (Nat.lt_of_lt_of_le hk hs)⟩ ?_
  cases ho : v.ownBlock with
  | none => exact .inl rfl
  | some k => exact .inr (by simp)
theorem own_some {w : World} {base : Nat} {e : TypeId} {size n : Nat} {v : Value} {xs : List Value} (h : w.ownsRow base e size v n xs) (hn : 0 < n) : ∃ g cap, v = .slice (some ⟨g, 0, none⟩) n cap ∧ n ≤ cap ∧ base ≤ g ∧ g < w.heap.size := by
  rcases h.2 with ⟨h1, h2⟩ | ⟨g, cap, cur, h1, hb, hg, hc, _⟩
  · omega
  · exact ⟨g, cap, h1, hc, hb, (Array.getElem?_eq_some_iff.1 hg).1⟩
theorem own_base {w : World} {base base' : Nat} {e : TypeId} {size n : Nat} {v : Value} {xs : List Value} (h : w.ownsRow base e size v n xs) (hb : base' ≤ base) : w.ownsRow base' e size v n xs := by
  refine ⟨h.1, ?_⟩
  rcases h.2 with h1 | ⟨g, cap, cur, h1, hbg, r⟩
  · exact .inl h1
  · exact .inr ⟨g, cap, cur, h1, by omega, r⟩
theorem addr_add' (b o n : Nat) : (⟨b, o, none⟩ : Addr).add n = ⟨b, o + n, none⟩ := Addr.add_lit b o n
/-- a struct was stored into a block -/
structure Stored (w W : World) (b : Nat) (L : List Value) : Prop where
  at_ : W.rangeAt b 0 L
  frozen : ∀ a, W.frozen? a = w.frozen? a
  size : W.heap.size = w.heap.size
  cell : ∀ a : Addr, a.block ≠ b → W.cell? a = w.cell? a
  block : ∀ k, k ≠ b → W.heap[k]? = w.heap[k]?
  below : ∀ s x, s ≤ b → Below s x w → Below s x W
theorem below_setCells : ∀ (vs : List Value) (b o : Nat) {s : Nat} {x w : World}, s ≤ b → Below s x w → Below s x (w.setCells b o vs)
  | [], _, _, _, _, _, _, h => h
  | v :: l, b, o, _, _, w, hs, h => below_setCells l b (o + 1) hs (h.setCell (p := ⟨b, o, none⟩) hs v)
theorem size_setCells : ∀ (vs : List Value) (b o : Nat) (w : World), (w.setCells b o vs).heap.size = w.heap.size
  | [], _, _, _ => rfl
  | v :: l, b, o, w => (size_setCells l b (o + 1) _).trans (World.size_setCell w ⟨b, o, none⟩ v)
theorem block_setCells : ∀ (vs : List Value) (b o : Nat) (w : World) (k : Nat), k ≠ b → (w.setCells b o vs).heap[k]? = w.heap[k]?
  | [], _, _, _, _, _ => rfl
  | v :: l, b, o, w, k, hk => (block_setCells l b (o + 1) _ k hk).trans (Below.heap_setCell _ _ _ k (fun e => hk (by rw [e])))
theorem stored_setCells (w : World) (b : Nat) (L : List Value) (ht : w.there b 0 L.length) : Stored w (w.setCells b 0 L) b L :=
  ⟨World.rangeAt_setCells_same w b 0 L ht, fun a => World.frozen?_setCells b L 0 w a, size_setCells L b 0 w, fun a ha => World.cell?_setCells_out b L 0 w a (fun e => absurd e ha), fun k hk => block_setCells L b 0 w k hk, fun _ _ hs h => below_setCells L b 0 hs h⟩
theorem there_of_block {w : World} {b : Nat} {C : Array Value} {t : TypeId} (hb : w.heap[b]? = some (.cells C t (0, 0))) : w.there b 0 C.size := fun j hj => by
  constructor
  · simp [World.cell?, hb, hj]
  · simp [World.frozen?, hb]
def peek (W : World) (b j : Nat) : Value := (W.cell? ⟨b, j, none⟩).getD undef
theorem there_cell {W : World} {b n : Nat} (h : W.there b 0 n) (j : Nat) (hj : j < n) : W.cell? ⟨b, j, none⟩ = some (peek W b j) := by
  have := (h j hj).1
  rw [Nat.zero_add] at this
  obtain ⟨v, hv⟩ := Option.isSome_iff_exists.1 this
  rw [peek, hv]; rfl
theorem there_frozen {W : World} {b n : Nat} (h : W.there b 0 n) (j : Nat) (hj : j < n) : W.frozen? ⟨b, j, none⟩ = false := by
  have := (h j hj).2
  rwa [Nat.zero_add] at this
theorem Stored.keep {w W : World} {b : Nat} {L : List Value} (h : Stored w W b L) {a : Addr} {v : Value} (ha : w.cell? a = some v) (hb : a.block ≠ b) : W.cell? a = some v := (h.cell a hb).trans ha
theorem Stored.there {w W : World} {b : Nat} {L : List Value} (h : Stored w W b L) {n : Nat} (hn : n = L.length) (ht : w.there b 0 n) : W.there b 0 n := fun j hj => by
  refine ⟨?_, (h.frozen _).trans (ht j hj).2⟩
  obtain ⟨v, hv⟩ : ∃ v, L[j]? = some v := ⟨L[j]'(by omega), List.getElem?_eq_getElem (by omega)⟩
  rw [h.at_ j v hv]; rfl
section
variable {P : Program}
theorem step_store {w : World} {ops : Array Oper} {o : Oper} {a : Act} {K : Act → World → Prop} {Q : Exit → Act → World → Prop} {E : Prop} (hgd : o.guard = none) (ty : TypeId) (x y : Operand) (ho : o.op = .store ty x y)
    (b : Nat) (cells : Array Value) (hx : a.eval x = .pointer (some ⟨b, 0, none⟩)) (hy : a.eval y = .agg cells)
    (n : Nat) (ht : w.there b 0 n) (hn : cells.size = n) (hi : (P.info? ty).map (·.size) = some n) (h1 : cells.all (·.oneCell') = true)
    (h : ∀ W, Stored w W b cells.toList → K (a.put o.dst undef) W) :
    if Region.wanted o (yielded ops a.tmps) = true then Oper.wp P o a w K Q else E := by
  have hw : Region.wanted o (yielded ops a.tmps) = true := by simp [Region.wanted, hgd]
  rw [if_pos hw]
  subst hn
  exact wp_store_mid ty x y ho b 0 cells hx hy ht hi h1 (h _ (stored_setCells w b cells.toList (by simpa using ht)))
theorem wpList_store {w : World} {ops : Array Oper} {rest : List Oper} {op : Oper} {a : Act} {Q : Exit → Act → World → Prop} (hgd : op.guard = none) (ty : TypeId) (x y : Operand) (ho : op.op = .store ty x y)
    (b : Nat) (cells : Array Value) (hx : a.eval x = .pointer (some ⟨b, 0, none⟩)) (hy : a.eval y = .agg cells)
    (n : Nat) (ht : w.there b 0 n) (hn : cells.size = n) (hi : (P.info? ty).map (·.size) = some n) (h1 : cells.all (·.oneCell') = true)
    (h : ∀ W, Stored w W b cells.toList → wpList P ops Q rest (a.put op.dst undef) W) : wpList P ops Q (op :: rest) a w :=
  by subst hn; exact wpList_store_mid hgd ty x y ho b 0 cells hx hy ht hi h1 (h _ (stored_setCells w b cells.toList (by simpa using ht)))
end
end Go.Base
namespace Go.AS
abbrev noTau : Nat → Nat × Nat := fun _ => (0, 0)
end Go.AS
namespace Go.Proofs.YtpbhfckefmboaaaGreatDoor.Sy
open Go Go.RowKit Go.Lib Go.AS Go.Base Go.Pr Go.Proofs.YtpbhfckefmboaaaGreatDoor.Ba
/-- all but one block, and what is new, lies as it lay -/
structure Only (tb : Nat) (w w' : World) : Prop where
  os : w'.os = w.os
  tape : w'.tape = w.tape
  output : w'.output = w.output
  size : w.heap.size ≤ w'.heap.size
  block : ∀ b, b < w.heap.size → b ≠ tb → w'.heap[b]? = w.heap[b]?
theorem Only.trans {tb : Nat} {x y z : World} (h : Only tb x y) (k : Only tb y z) : Only tb x z :=
  ⟨k.os.trans h.os, k.tape.trans h.tape, k.output.trans h.output, Nat.le_trans h.size k.size, fun b hb hn => (k.block b (Nat.lt_of_lt_of_le hb h.size) hn).trans (h.block b hb hn)⟩
theorem Only.of_below {tb : Nat} {x y : World} (h : Below x.heap.size x y) : Only tb x y := ⟨h.os, h.tape, h.output, h.size, fun b hb _ => h.block b hb⟩
theorem Only.set {tb : Nat} (x : World) (o : Nat) (v : Value) : Only tb x (x.setCell ⟨tb, o, none⟩ v) :=
  ⟨rfl, rfl, rfl, by show x.heap.size ≤ (x.heap.modify _ _).size; rw [Array.size_modify]; exact Nat.le_refl _, fun b _ hn => Below.heap_setCell x ⟨tb, o, none⟩ v b hn⟩
def lgN (l : Lg) : LogN := ⟨l.base, l.term, l.mtu, l.subs, l.ini, l.ses, l.str⟩
/-- what a machine's step leaves as it was -/
structure Frm (O : Nat → Prop) (w w' : World) : Prop where
  os : w'.os = w.os
  tape : w'.tape = w.tape
  output : w'.output = w.output
  size : w.heap.size ≤ w'.heap.size
  block : ∀ b, b < w.heap.size → ¬ O b → w'.heap[b]? = w.heap[b]?
/-- one's own blocks, behind a step: all that is new is one's own -/
def Grow (O : Nat → Prop) (w w' : World) (b : Nat) : Prop := O b ∨ (w.heap.size ≤ b ∧ b < w'.heap.size)
theorem cell_same {w w' : World} {b o : Nat} (h : w'.heap[b]? = w.heap[b]?) : w'.cell? ⟨b, o, none⟩ = w.cell? ⟨b, o, none⟩ := by
  simp only [World.cell?, h]
def RowAt (W : World) (ba : Option Addr) (B : List Nat) : Prop := ∀ (j x : Nat), B[j]? = some x → ∃ bb bo, ba = some ⟨bb, bo, none⟩ ∧ W.cell? ⟨bb, bo + j, none⟩ = some (.int .u8 (x : Int))
theorem row_nil {W : World} {B : List Nat} (h : RowAt W none B) : B = [] := by
  cases B with
  | nil => rfl
  | cons x B => obtain ⟨_, _, e, _⟩ := h 0 x rfl; cases e
/-- bytes where a slice says, in blocks of some kind -/
def RowK (W : World) (A : List Unit) (τ : Nat → Nat × Nat) (O : Nat → Prop) (ba : Option Addr) (B : List Nat) : Prop := ∀ (j x : Nat), B[j]? = some x → ∃ bb bo, ba = some ⟨bb, bo, none⟩ ∧ (∀ i, i < A.length → (τ i).1 ≠ bb) ∧ O bb ∧ W.cell? ⟨bb, bo + j, none⟩ = some (.int .u8 (x : Int))
theorem RowK.move {W W' : World} {A : List Unit} {τ : Nat → Nat × Nat} {O O' : Nat → Prop} {ba : Option Addr} {B : List Nat} (h : RowK W A τ O ba B) (hk : ∀ b, O b → W'.heap[b]? = W.heap[b]?) (hO : ∀ b, O b → O' b) : RowK W' A τ O' ba B := fun j x hx => by
  obtain ⟨bb, bo, e, hn, ho, hc⟩ := h j x hx
  exact ⟨bb, bo, e, hn, hO _ ho, (cell_same (hk bb ho)).trans hc⟩
abbrev ptrV (rt : Nat × Nat) : Value := .pointer (some ⟨rt.1, rt.2 + 0, none⟩)
def Made (W w' : World) : Nat → Prop := Grow (fun _ => False) W w'
def slotV (s : Slt) (has : Bool) : Value := .tuple #[.agg #[.int .i64 s.part, .int .i32 s.term, .int .i64 s.off, .int .i64 s.size], .bool has]
def isAsk {A O : Type} : Pr A O → Prop
  | .ask _ _ _ => True
  | .done _ => False
/-- what a machine says that it wants -/
def WV {R : Type} (p : Pr An R) (W : World) (O : Nat → Prop) (v : Value) : Prop := match p with
  | .ask _ _ _ => ∃ (k a n v' u : Int) (ba : Option Addr) (bn bc : Nat), v = .tuple #[.agg #[.int .i64 k, .int .i64 a, .int .i64 n, .int .u64 v', .int .u64 u, .slice ba bn bc], .bool true]
  | .done _ => v = .tuple #[.agg #[.int .i64 0, .int .i64 0, .int .i64 0, .int .u64 0, .int .u64 0, .slice none 0 0], .bool false]
/-- an offer's cells: it asks -/
def OffW (I : Nat) (C : Array Value) : Prop := WantC C ∧ C[7]? = some (.iface 215 (.pointer (some ⟨I, 0, none⟩)))
/-- a claim's cells: it asks -/
def ClmW (C : Array Value) : Prop := WantC C ∧ C[16]? = some (.pointer none)
/-- an offer's cells as it was refused -/
def offC (l : Lg) (e : Int) : Array Value := #[.int .i64 0, .int .i64 0, .int .i64 0, .int .u64 0, .int .u64 0, .slice none 0 0, .nilFunc, .nilIface, .nilFunc, .int .i64 l.base, .int .i64 l.term, .int .i64 l.mtu, .int .i64 l.subs, .int .i32 l.ini, .int .i32 l.ses, .int .i32 l.str, .pointer none, .int .i64 0, .int .i64 e]
/-- a claim's cells as it was refused -/
def clmC (l : Lg) (b : Value) (c : Bool) (e : Int) : Array Value := #[.int .i64 0, .int .i64 0, .int .i64 0, .int .u64 0, .int .u64 0, .slice none 0 0, .nilFunc, .int .i64 l.base, .int .i64 l.term, .int .i64 l.mtu, .int .i64 l.subs, .int .i32 l.ini, .int .i32 l.ses, .int .i32 l.str, b, .bool c, .pointer none, .int .i64 0, .int .i32 0, .int .i64 0, .int .i64 0, .bool false, .int .i64 0, .int .i64 e]
end Go.Proofs.YtpbhfckefmboaaaGreatDoor.Sy
