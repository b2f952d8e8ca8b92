/- WatchPlain, Place, Place2, InG, InH, InI, InJ: in one text. -/
import Derived.Test.YtpbhfckefmboaaaGreatDoorGp04
import Derived.Test.YtpbhfckefmboaaaGreatDoorGp01
set_option linter.unusedVariables false
set_option linter.unusedSimpArgs false
set_option linter.unusedSectionVars false
namespace Go.Base
open Go Go.Pr
/-- a log's numbers -/
structure LogN where
  base : Int
  term : Int
  mtu : Int
  subs : Int
  ini : Int
  ses : Int
  str : Int
def LogN.ok (l : LogN) : Prop := LogOk l.base l.term l.mtu l.subs
instance (l : LogN) : Decidable l.ok := by unfold LogN.ok; infer_instance
/-- with its sign: of four bytes, of eight -/
def s32 (n : Int) : Int := (n + 2147483648) % 4294967296 - 2147483648
def s64 (n : Int) : Int := (n + 9223372036854775808) % 18446744073709551616 - 9223372036854775808
def u32 (n : Int) : Int := n % 4294967296
def load (at_ n : Int) : Acc := ⟨1, at_, n, 0, 0, []⟩
def store (at_ n v : Int) : Acc := ⟨2, at_, n, v, 0, []⟩
/-- what is told: a number, and the clock ahead of it -/
structure Tld where
  v : Int
  now : Int
def LogN.M (l : LogN) : Int := l.base + 3 * l.term
def LogN.partAt (l : LogN) (p : Int) : Int := l.base + l.term * p
def LogN.tailAt (l : LogN) (p : Int) : Int := l.M + 8 * p
/-- how many bytes were made padding, and how far it mends -/
abbrev UO := Int × Int
/-- where an unstick stands: the part's place, the offset, the claimed end, how far it mends, the term, the log -/
structure US where
  l : LogN
  part : Int
  off : Int
  fin : Int
  to : Int
  trm : Int
/-- the four words of the padding's header -/
def US.word (u : US) (n : Int) : Nat → Int
  | 0 => u32 n
  | 1 => u32 u.off + 4294967296 * u32 u.l.ses
  | 2 => u32 u.l.str + 4294967296 * u32 u.trm
  | _ => 0
def padT (u : US) (n : Int) : Pr Tld UO :=
  .ask (0, u.to) (store (u.part + u.off + 8) 8 (u.word n 1)) fun _ =>
  .ask (0, u.to) (store (u.part + u.off + 16) 8 (u.word n 2)) fun _ =>
  .ask (0, u.to) (store (u.part + u.off + 24) 8 (u.word n 3)) fun _ =>
  .ask (0, u.to) (store (u.part + u.off) 8 (u.word n 0)) fun _ => .done (n, u.to)
/-- is all ahead of what was found still 0? -/
def backT (u : US) (found : Int) : Nat → Int → Pr Tld UO
  | 0, _ => padT u (found - u.off)
  | k + 1, b => if b < u.off then padT u (found - u.off) else .ask (0, u.to) (load (u.part + b) 4) fun x => if x.v = 0 then backT u found k (b - 32) else .done (0, u.to)
/-- the next frame that was begun -/
def aheadT (u : US) : Nat → Int → Pr Tld UO
  | 0, _ => backT u u.fin 300 (u.fin - 32)
  | k + 1, a => if a ≥ u.fin then backT u u.fin 300 (u.fin - 32) else .ask (0, u.to) (load (u.part + a) 4) fun x => if x.v = 0 then aheadT u k (a + 32) else backT u a 300 (a - 32)
def lookT (u : US) : Pr Tld UO :=
  .ask (0, 0) (load (u.part + u.off) 8) fun x =>
    if s32 x.v > 0 ∨ s32 x.v < u.off - u.l.term then .done (0, 0)
    else if s32 x.v < 0 then padT u ((-(s32 x.v) + 31) / 32 * 32)
    else aheadT u 300 (u.off + 32)
def unstickT (l : LogN) (pos : Int) : Pr Tld UO :=
  if ¬ l.ok ∨ pos < 0 ∨ pos ≥ l.term * 2147483648 then .done (0, 0)
  else .ask (0, 0) (load (l.tailAt (pos / l.term % 3)) 8) fun x =>
    let fin := min (x.v % 4294967296) l.term
    let trm := s32 (l.ini + pos / l.term)
    if s32 (x.v / 4294967296) ≠ trm ∨ pos % l.term ≥ fin then .done (0, 0)
    else lookT ⟨l, l.partAt (pos / l.term % 3), pos % l.term, fin, pos / l.term * l.term + fin, trm⟩
/-- how many bytes were made padding so far; what is mended, from and to -/
abbrev WO := Int × Int × Int
/-- a watcher between two looks -/
structure WS where
  sum : Int
  last : Int
  since : Int
  noted : Bool
/-- the readers' positions, from one on: fin is told the least, and the clock at the last one -/
def subsT (M : Int) (o : WO) (fin : Int → Int → Pr Tld WO) : Nat → Nat → Int → Int → Pr Tld WO
  | _, 0, least, now => fin least now
  | i, r + 1, least, _ => .ask o (load (M + 48 + 8 * i) 8) fun x => subsT M o fin (i + 1) r (if i = 0 ∨ s64 x.v < least then s64 x.v else least) x.now
def watchT (l : LogN) (timeout : Int) : Nat → WS → Pr Tld WO
  | 0, s => .done (s.sum, 0, 0)
  | n + 1, s => subsT l.M (s.sum, 0, 0) (fun least now =>
      if s.noted = false ∨ least ≠ s.last then watchT l timeout n ⟨s.sum, least, now, true⟩
      else if now - s.since > timeout then (unstickT l least).bind (fun o => (s.sum + o.1, if o.2 > 0 then least else 0, o.2)) (fun o => watchT l timeout n ⟨s.sum + o.1, s.last, now, true⟩)
      else watchT l timeout n s) 0 l.subs.toNat 0 0
end Go.Base
namespace Go.Proofs.YtpbhfckefmboaaaGreatDoor.Ba
open Go Go.RowKit Go.Lib Go.Base
theorem s32_eq (n : Int) : s32 n = wrap32 n := by unfold s32 wrap32; omega
theorem split_any (v : Int) (h0 : 0 ≤ v) (h1 : v < 18446744073709551616) (w : World) : Calls Tryz.prog 199 #[.int .u64 v] w fun e w' => e = .returned (.tuple #[.int .i32 (s32 (v % 4294967296)), .int .i32 (s32 (v / 4294967296))]) ∧ w' = w := by
  go_enter Tryz.func199, Tryz.ntmps199
  go_wp2
  go_ret2
  refine ⟨?_, rfl⟩
  simp only [s32_eq]
  rfl
theorem unpack_any (v : Int) (h0 : 0 ≤ v) (h1 : v < 18446744073709551616) (w : World) : Calls Tryz.prog 136 #[.int .u64 v] w fun e w' => e = .returned (.tuple #[.int .i32 (s32 (v / 4294967296)), .int .u32 (v % 4294967296)]) ∧ w' = w := by
  go_enter Tryz.func136, Tryz.ntmps136
  go_wp2
  go_ret2
  refine ⟨?_, rfl⟩
  simp only [s32_eq]
  rfl
theorem count_any (t i : Int) (w : World) : Calls Tryz.prog 80 #[.int .i32 t, .int .i32 i] w fun e w' => e = .returned (.int .u32 (u32 (t - i))) ∧ w' = w := by
  go_enter Tryz.func80, Tryz.ntmps80
  go_wp2
  go_ret
  refine ⟨?_, rfl⟩
  have e : u32 (t - i) = (t % 4294967296 - i % 4294967296) % 4294967296 := by unfold u32; omega
  rw [e]
  rfl
end Go.Proofs.YtpbhfckefmboaaaGreatDoor.Ba
namespace Go.Proofs.YtpbhfckefmboaaaGreatDoor.Ba
open Go Go.RowKit Go.Lib Go.Base
theorem or_nat (x y : Nat) (hx : x < 4294967296) (hy : y < 4294967296) : bits .or .u64 ((x * 4294967296 : Nat) : Int) (y : Int) = ((y + 4294967296 * x : Nat) : Int) := by
  show IntKind.u64.wrap ((BitVec.ofInt 64 ((x * 4294967296 : Nat) : Int) ||| BitVec.ofInt 64 (y : Int)).toNat : Int) = _
  rw [BitVec.toNat_or, ofInt_u64 (x * 4294967296) (by omega), ofInt_u64 y (by omega)]
  have h := Nat.shiftLeft_add_eq_or_of_lt (show y < 2 ^ 32 from hy) x
  rw [Nat.shiftLeft_eq] at h
  rw [show (4294967296 : Nat) = 2 ^ 32 by decide, ← h, IntKind.wrap_u64]
  omega
theorem or_int (a b : Int) (ha : 0 ≤ a) (ha1 : a < 4294967296) (hb : 0 ≤ b) (hb1 : b < 4294967296) : bits .or .u64 (a * 4294967296) b = b + 4294967296 * a := by
  obtain ⟨x, rfl⟩ : ∃ x : Nat, a = x := ⟨a.toNat, by omega⟩
  obtain ⟨y, rfl⟩ : ∃ y : Nat, b = y := ⟨b.toNat, by omega⟩
  have := or_nat x y (by omega) (by omega)
  rw [show ((x * 4294967296 : Nat) : Int) = (x : Int) * 4294967296 by omega] at this
  rw [this]
  omega
theorem part_any (c : Int) (h0 : 0 ≤ c) (h1 : c < 4294967296) (w : World) : Calls Tryz.prog 116 #[.int .u32 c] w fun e w' => e = .returned (.int .i64 (c % 3)) ∧ w' = w := by
  have e : c.tmod 3 = c % 3 := Int.tmod_eq_emod_of_nonneg h0
  go_enter Tryz.func116, Tryz.ntmps116
  go_wp2
  go_ret
  exact ⟨rfl, rfl⟩
theorem record_any (a b : Int) (w : World) : Calls Tryz.prog 223 #[.int .i32 a, .int .i32 b] w fun e w' => e = .returned (.int .u64 (u32 a + 4294967296 * u32 b)) ∧ w' = w := by
  go_enter Tryz.func223, Tryz.ntmps223
  go_wp2
  go_ret
  refine ⟨?_, rfl⟩
  have e := or_int (b % 4294967296) (a % 4294967296) (by omega) (by omega) (by omega) (by omega)
  show Ending.returned (.int .u64 (bits BinOp.or IntKind.u64 (b % 4294967296 * 4294967296) (a % 4294967296))) = _
  rw [e]
  rfl
theorem pack_any (t o : Int) (h0 : 0 ≤ o) (h1 : o < 4294967296) (w : World) : Calls Tryz.prog 54 #[.int .i32 t, .int .u32 o] w fun e w' => e = .returned (.int .u64 (o + 4294967296 * u32 t)) ∧ w' = w := by
  go_enter Tryz.func54, Tryz.ntmps54
  go_wp2
  go_ret
  refine ⟨?_, rfl⟩
  have e := or_int (t % 4294967296) o (by omega) (by omega) h0 h1
  show Ending.returned (.int .u64 (bits BinOp.or IntKind.u64 (t % 4294967296 * 4294967296) o)) = _
  rw [e]
  rfl
end Go.Proofs.YtpbhfckefmboaaaGreatDoor.Ba
namespace Go.Proofs.YtpbhfckefmboaaaGreatDoor.Ba
open Go Go.RowKit Go.Lib Go.Base
theorem window_any (l : Lg) (h : l.ok) (w : World) :
    Calls Tryz.prog 57 #[l.val] w fun e w' => e = .returned (.int .i64 (l.term / 2)) ∧ Below w.heap.size w w' := by
  have hb := h.bounds
  have c := fun W => at_any l h (l.term / 2) W
  clear h
  obtain ⟨base, term, mtu, subs, ini, ses, str⟩ := l
  unfold Lg.val at c ⊢
  dsimp only at *
  have k0 : Int.tdiv term 2 = term / 2 := Int.tdiv_eq_ediv_of_nonneg (by omega)
  have kw : IntKind.i64.wrap (term / 2) = term / 2 := wrap_small _ (by omega) (by omega)
  have HS := Lib.hid (show Below w.heap.size w (w.alloc (.cells #[.int .i64 base, .int .i64 term, .int .i64 mtu, .int .i64 subs, .int .i32 ini, .int .i32 ses, .int .i32 str] 23)) ∧ (w.alloc (.cells #[.int .i64 base, .int .i64 term, .int .i64 mtu, .int .i64 subs, .int .i32 ini, .int .i32 ses, .int .i32 str] 23)).heap.size = w.heap.size + 1 from ⟨(Below.refl _ _).alloc (Nat.le_refl _) _, by simp⟩)
  go_enter Tryz.func57, Tryz.ntmps57
  go_wp2_with (go_at_call 50; refine (c _).mono ?_; clear c; rintro e w1 ⟨rfl, hB⟩; have HB := Lib.hid hB; clear hB)
  go_ret
  exact ⟨by first | rfl | simp, HS.out.1.trans (HB.out.mono (by have := HS.out.2; omega))⟩
end Go.Proofs.YtpbhfckefmboaaaGreatDoor.Ba
namespace Go.Proofs.YtpbhfckefmboaaaGreatDoor.Ba
open Go Go.RowKit Go.Lib Go.Base
theorem sto_at (L : List Sto) (i : Nat) (x : Sto) (h : L[i]? = some x) (k : Nat) (hk : k < 6) : (L.flatMap stoC)[6 * i + k]? = (stoC x)[k]? := by
  induction L generalizing i with
  | nil => simp at h
  | cons y L ih =>
    cases i with
    | zero =>
      obtain rfl : y = x := by simpa using h
      rw [List.flatMap_cons, List.getElem?_append_left (by show _ < 6; omega)]
      congr 1
      omega
    | succ i =>
      rw [List.flatMap_cons, List.getElem?_append_right (by show 6 ≤ _; omega)]
      have := ih i (by simpa using h)
      rw [← this]
      congr 1
      show 6 * (i + 1) + k - 6 = _
      omega
theorem stoR_of {w : World} {I n0 : Nat} {v : Value} {x : Sto} {L : List Sto} (hI : I < n0) (h : w.ownsRow n0 40 6 v (x :: L).length ((x :: L).flatMap stoC)) :
    ∃ g cap, v = .slice (some ⟨g, 0, none⟩) (L.length + 1) cap ∧ L.length + 1 ≤ cap ∧ cap ≤ 9223372036854775807 ∧ StoR w I (some ⟨g, 0, none⟩) (x :: L) := by
  obtain ⟨hl, h2⟩ := h
  rcases h2 with ⟨rfl, hn⟩ | ⟨g, cap, cur, rfl, hb, hg, hn, hm, hs, ht⟩
  · simp at hn
  · refine ⟨g, cap, rfl, hn, hm, fun j y hj => ⟨g, 0, rfl, by omega, ⟨_, hg⟩, ?_⟩⟩
    have key : ∀ k u, (stoC y)[k]? = some u → w.cell? ⟨g, 0 + 6 * j + k, none⟩ = some u := fun k u hu => by
      have hk : k < 6 := (List.getElem?_eq_some_iff.1 hu).1
      have h1 := sto_at (x :: L) j y hj k hk
      rw [hu, ← ht, List.getElem?_take] at h1
      split at h1
      · rw [Array.getElem?_toList] at h1
        simp only [World.cell?, hg]
        rw [Nat.zero_add]
        exact h1
      · cases h1
    exact ⟨key 0 _ rfl, key 1 _ rfl, key 2 _ rfl, key 3 _ rfl, key 4 _ rfl, key 5 _ rfl⟩
/-- where meta.New stands: what it has written down -/
def Ns (l : Lg) (w : World) (A T : Nat) (V : World) (L : List Sto) : Prop :=
  Below A w V ∧ V.heap[A]? = some (.cells #[.int .i64 l.base, .int .i64 l.term, .int .i64 l.mtu, .int .i64 l.subs, .int .i32 l.ini, .int .i32 l.ses, .int .i32 l.str] 23) ∧ InitS V (A + 1) [] ∧ TodoR V T T L ∧ A + 1 < T
theorem TodoR.size {w : World} {T n0 : Nat} {L : List Sto} (h : TodoR w T n0 L) : T < w.heap.size := by
  obtain ⟨_, v, h1, _⟩ := h
  exact (Array.getElem?_eq_some_iff.1 h1).1
theorem TodoR.below {w w' : World} {T n0 n : Nat} {L : List Sto} (h : TodoR w T n0 L) (hb : Below n w w') (hn : w.heap.size ≤ n) : TodoR w' T n0 L := by
  have ht := h.size
  obtain ⟨h0, v, h1, h2⟩ := h
  exact ⟨h0, v, (hb.block T (by omega)).trans h1, own_at h2 fun g hg => hb.block g (Nat.lt_of_lt_of_le (h2.lt g hg).2 hn)⟩
theorem Ns.below {l : Lg} {w V V' : World} {A T n : Nat} {L : List Sto} (h : Ns l w A T V L) (hb : Below n V V') (hn : V.heap.size ≤ n) : Ns l w A T V' L := by
  have ht := h.2.2.2.1.size
  have hAT := h.2.2.2.2
  exact ⟨h.1.trans (hb.mono (by omega)), (hb.block A (by omega)).trans h.2.1, (hb.block (A + 1) (by omega)).trans h.2.2.1, h.2.2.2.1.below hb hn, hAT⟩
theorem Ns.below' {l : Lg} {w V V' : World} {A T : Nat} {L : List Sto} (h : Ns l w A T V L) (hb : Below V.heap.size V V') : Ns l w A T V' L := h.below hb (Nat.le_refl _)
theorem Ns.drew {l : Lg} {w V : World} {A T : Nat} {L : List Sto} (h : Ns l w A T V L) : Ns l w A T V.drew L := h.below' (Below.drew (Below.refl _ _))
theorem Ns.cells {l : Lg} {w V : World} {A T : Nat} {L : List Sto} (h : Ns l w A T V L) : V.cell? ⟨A, 0, none⟩ = some (.int .i64 l.base) ∧ V.cell? ⟨A, 1, none⟩ = some (.int .i64 l.term) ∧ V.cell? ⟨A, 2, none⟩ = some (.int .i64 l.mtu) ∧ V.cell? ⟨A, 3, none⟩ = some (.int .i64 l.subs) ∧ V.cell? ⟨A, 4, none⟩ = some (.int .i32 l.ini) ∧ V.cell? ⟨A, 5, none⟩ = some (.int .i32 l.ses) ∧ V.cell? ⟨A, 6, none⟩ = some (.int .i32 l.str) := by
  have h1 := h.2.1
  refine ⟨?_, ?_, ?_, ?_, ?_, ?_, ?_⟩ <;> simp [World.cell?, h1]
theorem ns_add {l : Lg} {w V : World} {A T : Nat} {L : List Sto} (h : Ns l w A T V L) (hL : L.length ≤ 100) (p n v : Int) :
    Calls Tryz.prog 52 #[.int .i64 p, .int .i64 n, .int .u64 v, .pointer (some ⟨T, 0, none⟩)] V fun e w' => e = .returned (.tuple #[]) ∧ Ns l w A T w' (L ++ [(p, n, v)]) := by
  have ht := h.2.2.2.1.size
  have hAT := h.2.2.2.2
  refine (todo_add h.2.2.2.1 hL (by omega) p n v).mono ?_
  rintro e w' ⟨he, hb, hT⟩
  exact ⟨he, h.1.trans (hb.mono (by omega)), (hb.block A (by omega)).trans h.2.1, (hb.block (A + 1) (by omega)).trans h.2.2.1, hT, hAT⟩
theorem at_new {w W : World} {ob : Obj} (h : w.alloc ob = W) : Below w.heap.size w W ∧ W.heap[w.heap.size]? = some ob ∧ W.heap.size = w.heap.size + 1 := by
  rw [← h]; exact ⟨(Below.refl _ _).alloc (Nat.le_refl _) _, heap_new _ _, by simp⟩
theorem ns_start {l : Lg} {w W1 W2 W3 W4 : World} {A : Nat} (hA : w.heap.size = A) (h1 : w.alloc (.cells #[.int .i64 l.base, .int .i64 l.term, .int .i64 l.mtu, .int .i64 l.subs, .int .i32 l.ini, .int .i32 l.ses, .int .i32 l.str] 23) = W1) (h2 : W1.alloc (.cells #[.int .i64 0, .int .i64 0, .int .i64 0, .int .u64 0, .int .u64 0, .slice none 0 0, .nilFunc] 126) = W2) (hB : Below W2.heap.size W2 W3) (h4 : W3.alloc (.cells #[.slice none 0 0] 127) = W4) : Ns l w A W3.heap.size W4 [] := by
  obtain ⟨b1, r1, s1⟩ := at_new h1
  obtain ⟨b2, r2, s2⟩ := at_new h2
  obtain ⟨b4, r4, s4⟩ := at_new h4
  rw [hA] at b1 r1 s1
  rw [s1] at b2 r2 s2
  have hs := hB.size
  refine ⟨b1.trans ((b2.mono (by omega)).trans ((hB.mono (by omega)).trans (b4.mono (by omega)))), ?_, ?_, ⟨Nat.le_refl _, _, r4, ?_⟩, by omega⟩
  · exact (b4.block A (by omega)).trans ((hB.block A (by omega)).trans ((b2.block A (by omega)).trans r1))
  · exact (b4.block (A + 1) (by omega)).trans ((hB.block (A + 1) (by omega)).trans r2)
  · exact ⟨rfl, .inl ⟨rfl, rfl⟩⟩
theorem Ns.fin {l : Lg} {w V W : World} {A T : Nat} {L : List Sto} (h : Ns l w A T V L) (ht : Turn2 (A + 1) (A + 1) V W) : Below A w W := by
  have := h.2.2.2.1.size
  exact h.1.trans ⟨ht.os, ht.tape, ht.output, ht.size, fun k hk => ht.block k (by have := h.2.2.2.2; omega) (by omega) (by omega)⟩
end Go.Proofs.YtpbhfckefmboaaaGreatDoor.Ba
namespace Go.Proofs.YtpbhfckefmboaaaGreatDoor.Ba
open Go Go.RowKit Go.Lib Go.Base
/-- the stores of a new log -/
def stoT (l : Lg) (i : Nat) : Sto := (l.base + 3 * l.term + (i : Int) * 8, 8, 4294967296 * u32 (IntKind.i32.wrap (l.ini - -(i : Int) % 3)))
def stoS (l : Lg) (i : Nat) : Sto := (l.base + 3 * l.term + 48 + (i : Int) * 8, 8, 0)
def stosT (l : Lg) (n : Nat) : List Sto := (List.range n).map (stoT l)
def stosM (l : Lg) : List Sto := stosT l 3 ++ [(l.base + 3 * l.term + 24, 4, 0), (l.base + 3 * l.term + 32, 8, l.term / 2), (l.base + 3 * l.term + 40, 8, 0)]
def stos (l : Lg) (n : Nat) : List Sto := stosM l ++ (List.range n).map (stoS l)
theorem stosT_succ (l : Lg) (n : Nat) : stosT l (n + 1) = stosT l n ++ [stoT l n] := by simp [stosT, List.range_succ]
theorem stos_succ (l : Lg) (n : Nat) : stos l (n + 1) = stos l n ++ [stoS l n] := by simp [stos, List.range_succ]
theorem stosT_len (l : Lg) (n : Nat) : (stosT l n).length = n := by simp [stosT]
theorem stos_len (l : Lg) (n : Nat) : (stos l n).length = 6 + n := by simp [stos, stosM, stosT_len]; omega
theorem stos_cons (l : Lg) (n : Nat) : ∃ x L, stos l n = x :: L := ⟨_, _, rfl⟩
set_option maxRecDepth 1000000 in
set_option maxHeartbeats 3200000 in
theorem new_any (l : Lg) (h : l.ok) (w : World) : Calls Tryz.prog 30 #[l.val] w fun e w' => ∃ I, e = .returned (.pointer (some ⟨I, 0, none⟩)) ∧ Below w.heap.size w w' ∧ w.heap.size ≤ I ∧ InitS w' I (stos l l.subs.toNat) := by
  obtain ⟨A, hA⟩ : ∃ A, w.heap.size = A := ⟨_, rfl⟩
  have hb := h.bounds
  have cC := fun W => check_ok l h W
  have cT := fun (i : Int) (h0 : 0 ≤ i) (h1 : i < 3) W => tailAt_any l h i h0 h1 W
  have cS := fun (i : Int) (h0 : 0 ≤ i) (h1 : i < l.subs) W => subAt_any l h i h0 h1 W
  have cA := fun W => activeAt_any l h W
  have cL := fun W => limitAt_any l h W
  have cN := fun W => cleanAt_any l h W
  have cW := fun W => window_any l h W
  have kw : IntKind.u64.wrap (l.term / 2) = l.term / 2 := by simp [IntKind.wrap, IntKind.bits]; omega
  have hns := fun (W1 W2 W3 W4 : World) => ns_start (l := l) (w := w) (W1 := W1) (W2 := W2) (W3 := W3) (W4 := W4) hA
  unfold Lg.val at cC cT cS cA cL cN cW ⊢
  obtain ⟨W1, hW1⟩ : ∃ W1, w.alloc (.cells #[.int .i64 l.base, .int .i64 l.term, .int .i64 l.mtu, .int .i64 l.subs, .int .i32 l.ini, .int .i32 l.ses, .int .i32 l.str] 23) = W1 := ⟨_, rfl⟩
  obtain ⟨W2, hW2⟩ : ∃ W2, W1.alloc (.cells #[.int .i64 0, .int .i64 0, .int .i64 0, .int .u64 0, .int .u64 0, .slice none 0 0, .nilFunc] 126) = W2 := ⟨_, rfl⟩
  have s1 : W1.heap.size = A + 1 := by rw [← hA]; exact (at_new hW1).2.2
  have r2 := (at_new hW1).2.1
  rw [hA] at r2
  replace r2 := ((at_new hW2).1.block A (by omega)).trans r2
  have hN1 := fun W3 W4 => hns W1 W2 W3 W4 hW1 hW2
  have HX := Lib.hid (And.intro cC (And.intro cT (And.intro cS (And.intro cA (And.intro cL (And.intro cN (And.intro cW hN1)))))))
  obtain ⟨m0, m1, m2, m3, m4, m5, m6⟩ := blk7 r2
  clear cC cT cS cA cL cN cW hns hN1 h r2
  go_enter Tryz.func30, Tryz.ntmps30
  go_wp2_with (first
    | (go_at_call 49; (refine (HX.out.1 _).mono ?_; rintro e W3 ⟨rfl, hB⟩; obtain ⟨W4, hW4⟩ : ∃ W4, W3.alloc (.cells #[.slice none 0 0] 127) = W4 := ⟨_, rfl⟩; obtain ⟨T, hT⟩ : ∃ T, W3.heap.size = T := ⟨_, rfl⟩; have HN0 := Lib.hid (show Ns l w A T W4 [] from hT ▸ HX.out.2.2.2.2.2.2.2 W3 W4 hB hW4); clear hB m0 m1 m2 m3 m4 m5 m6)))
  clear hW1 hW2 hW4 hT s1
  go_loopw [15] (fun ii wr => ∃ i : Nat, ii = .int .i64 (i : Int) ∧ i ≤ 3 ∧ Hid (Ns l w A T wr (stosT l i))) (fun ii _ => ((4 : Int) - intOf ii).toNat)
  case atStart => exact ⟨0, rfl, by omega, HN0⟩
  case round =>
    obtain ⟨i, rfl, hi, HN⟩ := hrel
    obtain ⟨m0, m1, m2, m3, m4, m5, m6⟩ := HN.out.cells
    by_cases hi2 : i < 3
    · have hi3 : (i : Int) < 3 := by omega
      have hi0 : (0 : Int) ≤ (i : Int) := by omega
      have q1 : IntKind.i64.wrap (3 - (i : Int)) = 3 - (i : Int) := wrap_small _ (by omega) (by omega)
      have q2 : Int.tmod (3 - (i : Int)) 3 = (3 - (i : Int)) % 3 := Int.tmod_eq_emod_of_nonneg (by omega)
      have q3 : IntKind.i32.wrap (-(i : Int) % 3) = -(i : Int) % 3 := by simp [IntKind.wrap, IntKind.bits]; omega
      have qi : IntKind.i64.wrap ((i : Int) + 1) = (i : Int) + 1 := wrap_small _ (by omega) (by omega)
      go_wp2_with fail
      go_region_with
      (first
        | (go_at_call 53
           refine (HX.out.2.1 (i : Int) hi0 hi3 _).mono ?_
           rintro e w2 ⟨rfl, hB⟩
           have H2 := Lib.hid (HN.out.drew.below' hB)
           obtain ⟨n0, n1, n2, n3, n4, n5, n6⟩ := H2.out.cells
           clear hB m0 m1 m2 m3 m4 m5 m6)
        | (go_at_call 54
           refine (pack_any _ _ (by decide) (by decide) _).mono ?_
           rintro e w3 ⟨rfl, rfl⟩)
        | (go_at_call 52
           refine (ns_add H2.out (by rw [stosT_len]; omega) _ _ _).mono ?_
           rintro e w4 ⟨rfl, hN⟩
           have H4 := Lib.hid hN
           clear hN))
      all_goals go_wp2
      all_goals exact ⟨⟨i + 1, by simp, by omega, by rw [stosT_succ]; exact H4⟩, by simp [intOf]; omega⟩
    · obtain rfl : i = 3 := by omega
      clear HN0 hi hi2
      go_wp2_with (first
        | (go_at_call 55
           refine (HX.out.2.2.2.1 _).mono ?_
           rintro e w5 ⟨rfl, hB⟩
           have H5 := Lib.hid (HN.out.below' hB)
           clear hB m0 m1 m2 m3 m4 m5 m6)
        | (go_at_call 52
           refine (ns_add H5.out (by rw [stosT_len]; omega) _ _ _).mono ?_
           rintro e w6 ⟨rfl, hN⟩
           have H6 := Lib.hid hN
           obtain ⟨n0, n1, n2, n3, n4, n5, n6⟩ := hN.cells
           clear hN))
      go_region_with
      (first
        | (go_at_call 56
           refine (HX.out.2.2.2.2.1 _).mono ?_
           rintro e w7 ⟨rfl, hB⟩
           have H7 := Lib.hid (H6.out.drew.below' hB)
           obtain ⟨p0, p1, p2, p3, p4, p5, p6⟩ := H7.out.cells
           clear hB n0 n1 n2 n3 n4 n5 n6)
        | (go_at_call 57
           refine (HX.out.2.2.2.2.2.2.1 _).mono ?_
           rintro e w8 ⟨rfl, hB⟩
           have H8 := Lib.hid (H7.out.below' hB)
           clear hB p0 p1 p2 p3 p4 p5 p6)
        | (go_at_call 52
           refine (ns_add H8.out (by simp [stosT_len]) _ _ _).mono ?_
           rintro e w9 ⟨rfl, hN⟩
           have H9 := Lib.hid hN
           obtain ⟨p0, p1, p2, p3, p4, p5, p6⟩ := hN.cells
           clear hN))
      all_goals go_wp2_with (first
        | (go_at_call 58
           refine (HX.out.2.2.2.2.2.1 _).mono ?_
           rintro e w10 ⟨rfl, hB⟩
           have H10 := Lib.hid (H9.out.below' hB)
           clear hB p0 p1 p2 p3 p4 p5 p6)
        | (go_at_call 52
           refine (ns_add H10.out (by simp [stosT_len]) _ _ _).mono ?_
           rintro e w11 ⟨rfl, hN⟩
           have H11 := Lib.hid hN
           obtain ⟨p0, p1, p2, p3, p4, p5, p6⟩ := hN.cells
           clear hN))
      all_goals (
        have HN2 : Hid (Ns l w A T w11 (stos l 0)) := Lib.hid (by simpa [stos, stosM] using H11.out)
        clear H5 H6 H7 H8 H9 H10 H11 HN
        go_loopw [49] (fun ii wr => ∃ i : Nat, ii = .int .i64 (i : Int) ∧ (i : Int) ≤ l.subs ∧ Hid (Ns l w A T wr (stos l i))) (fun ii _ => ((10 : Int) - intOf ii).toNat)
        case atStart => exact ⟨0, rfl, by omega, HN2⟩
        case round =>
          obtain ⟨i, rfl, hi, HN⟩ := hrel
          clear HN2 p0 p1 p2 p3 p4 p5 p6
          obtain ⟨m0, m1, m2, m3, m4, m5, m6⟩ := HN.out.cells
          by_cases hi3 : (i : Int) < l.subs
          · have hi0 : (0 : Int) ≤ (i : Int) := by omega
            have qi : IntKind.i64.wrap ((i : Int) + 1) = (i : Int) + 1 := wrap_small _ (by omega) (by omega)
            go_wp2_with (first
              | (go_at_call 59
                 refine (HX.out.2.2.1 (i : Int) hi0 hi3 _).mono ?_
                 rintro e w12 ⟨rfl, hB⟩
                 have H12 := Lib.hid (HN.out.below' hB)
                 clear hB m0 m1 m2 m3 m4 m5 m6)
              | (go_at_call 52
                 refine (ns_add H12.out (by rw [stos_len]; omega) _ _ _).mono ?_
                 rintro e w13 ⟨rfl, hN⟩
                 have H13 := Lib.hid hN
                 clear hN))
            exact ⟨⟨i + 1, by simp, by omega, by rw [stos_succ]; exact H13⟩, by simp [intOf]; omega⟩
          · obtain ⟨x, L, hxL⟩ := stos_cons l i
            have hin : l.subs.toNat = i := by omega
            have hN := HN.out
            rw [hxL] at hN
            obtain ⟨v, k0, ho⟩ := hN.2.2.2.1.2
            obtain ⟨g, cap, rfl, hc1, hc2, hr⟩ := stoR_of (I := A + 1) hN.2.2.2.2 ho
            have k1 : wr.cell? ⟨T, 0, none⟩ = some (.slice (some ⟨g, 0, none⟩) (L.length + 1) cap) := by simp [World.cell?, k0]
            have cl := all_some hN.2.2.1 hr hc1 hc2
            have HF := Lib.hid (And.intro hN cl)
            clear hN hr k0 ho cl m0 m1 m2 m3 m4 m5 m6
            go_wp2_with (go_at_call 60
                         refine HF.out.2.mono ?_
                         rintro e w14 ⟨rfl, hT2, hS⟩
                         have HZ := Lib.hid (And.intro (HF.out.1.fin hT2) hS)
                         clear hT2 hS)
            go_ret
            refine ⟨A + 1, rfl, hA ▸ HZ.out.1, by omega, ?_⟩
            rw [hin, hxL]
            exact HZ.out.2)
end Go.Proofs.YtpbhfckefmboaaaGreatDoor.Ba
namespace Go.Proofs.YtpbhfckefmboaaaGreatDoor.Ba
open Go Go.RowKit Go.Lib Go.Base
/-- an access is stored into a block -/
def putA (V : World) (X : Nat) (k p n v u : Int) (s : Value) : World := (((((V.setCell ⟨X, 0, none⟩ (.int .i64 k)).setCell ⟨X, 1, none⟩ (.int .i64 p)).setCell ⟨X, 2, none⟩ (.int .i64 n)).setCell ⟨X, 3, none⟩ (.int .u64 v)).setCell ⟨X, 4, none⟩ (.int .u64 u)).setCell ⟨X, 5, none⟩ s
theorem putA_new {w V : World} {X : Nat} {k p n v u : Int} {s : Value} {v0 v1 v2 v3 v4 v5 : Value} (hX : w.heap.size = X) (hb : Below w.heap.size w V) (h : V.heap[X]? = some (.cells #[v0, v1, v2, v3, v4, v5] 40)) : Below w.heap.size w (putA V X k p n v u s) ∧ (putA V X k p n v u s).heap[X]? = some (.cells #[.int .i64 k, .int .i64 p, .int .i64 n, .int .u64 v, .int .u64 u, s] 40) := by
  have j := set7 (set7 (set7 (set7 (set7 (set7 h 0 (.int .i64 k)) 1 (.int .i64 p)) 2 (.int .i64 n)) 3 (.int .u64 v)) 4 (.int .u64 u)) 5 s
  have hx : w.heap.size ≤ X := Nat.le_of_eq hX
  refine ⟨below_set (below_set (below_set (below_set (below_set (below_set hb hx) hx) hx) hx) hx) hx, ?_⟩
  unfold putA
  rw [j]
  rfl
set_option maxRecDepth 100000 in
theorem meth_next {n : Nat} (hn : n = Tryz.prog.types.size + Made.depth) (v : Option Addr) (w : World) : Sem.run Tryz.prog (method n 82 (.pointer v) "Next") w = .ok (262, .pointer v) w := by
  subst hn
  kernel_rfl
set_option maxRecDepth 100000 in
theorem meth_take {n : Nat} (hn : n = Tryz.prog.types.size + Made.depth) (v : Option Addr) (w : World) : Sem.run Tryz.prog (method n 82 (.pointer v) "Take") w = .ok (263, .pointer v) w := by
  subst hn
  kernel_rfl
set_option maxRecDepth 100000 in
theorem call_next (v : Value) (w : World) : Sem.run Tryz.prog (callFunc 262 #[v]) w = .ok (.enter 262 #[v]) w := by
  kernel_rfl
set_option maxRecDepth 100000 in
theorem call_take (v u : Value) (w : World) : Sem.run Tryz.prog (callFunc 263 #[v, u]) w = .ok (.enter 263 #[v, u]) w := by
  kernel_rfl
/-- an actor: its machine, and whether it was killed -/
def ActR (w : World) (a : Nat) (m : Value) (dead : Bool) : Prop := w.heap[a]? = some (.cells #[m, .bool dead] 121)
set_option maxHeartbeats 3200000 in
set_option maxRecDepth 100000 in
theorem anext_init {w : World} {a I : Nat} {k p n v u : Int} {ba : Option Addr} {bn bc : Nat} {bb dd : Bool} (ha : ActR w a (.iface 82 (.pointer (some ⟨I, 0, none⟩))) dd)
    (hN : ∀ V, Below w.heap.size w V → Calls Tryz.prog 262 #[.pointer (some ⟨I, 0, none⟩)] V fun e w' => e = .returned (.tuple #[accM k p n v u ba bn bc, .bool bb]) ∧ Below V.heap.size V w') :
    Calls Tryz.prog 61 #[.pointer (some ⟨a, 0, none⟩)] w fun e w' => e = .returned (.tuple #[accM k p n v u ba bn bc, .bool bb]) ∧ Below w.heap.size w w' := by
  obtain ⟨X, hX⟩ : ∃ X, w.heap.size = X := ⟨_, rfl⟩
  obtain ⟨V, hV⟩ : ∃ V, w.alloc (.cells #[.int .i64 0, .int .i64 0, .int .i64 0, .int .u64 0, .int .u64 0, .slice none 0 0] 40) = V := ⟨_, rfl⟩
  obtain ⟨bV, rV, sV⟩ := at_new hV
  rw [hX] at rV
  have hv := (bV.block a (Array.getElem?_eq_some_iff.1 ha).1).trans ha
  have k0 : V.cell? ⟨a, 0, none⟩ = some (.iface 82 (.pointer (some ⟨I, 0, none⟩))) := by simp [World.cell?, hv]
  have CN := Lib.hid (hN V bV)
  have HV := Lib.hid (And.intro bV rV)
  unfold accM at CN ⊢
  clear ha hN bV rV sV hv
  go_enter Tryz.func61, Tryz.ntmps61
  go_wp2_with (fail)
  rw [meth_next (by kernel_rfl)]
  simp only [Result.andThen, call_next]
  refine CN.out.mono ?_
  rintro e w1 ⟨rfl, hB⟩
  have rV := (hB.block X (Array.getElem?_eq_some_iff.1 HV.out.2).1).trans HV.out.2
  have b1 : Below w.heap.size w w1 := HV.out.1.trans (hB.mono HV.out.1.size)
  obtain ⟨d0, d1, d2, d3, d4, d5⟩ := blk6 rV
  have y0 := froz6 rV 0
  have y1 := froz6 rV 1
  have y2 := froz6 rV 2
  have y3 := froz6 rV 3
  have y4 := froz6 rV 4
  have y5 := froz6 rV 5
  obtain ⟨q1, q2⟩ := putA_new (k := k) (p := p) (n := n) (v := v) (u := u) (s := .slice ba bn bc) hX b1 rV
  obtain ⟨k0, k1, k2, k3, k4, k5⟩ := blk6 q2
  have HQ := Lib.hid q1
  have HK := Lib.hid (And.intro k0 (And.intro k1 (And.intro k2 (And.intro k3 (And.intro k4 k5)))))
  clear hB rV b1 q1 q2 k0 k1 k2 k3 k4 k5
  go_wp2
  obtain ⟨k0, k1, k2, k3, k4, k5⟩ := HK.out
  unfold putA at k0 k1 k2 k3 k4 k5
  refine bodyPost_ret (by simp [results, Tryz.results61, go_sem, k0, k1, k2, k3, k4, k5]) rfl ⟨rfl, ?_⟩
  have hq := HQ.out
  unfold putA at hq
  rw [← hX]
  rw [← hX] at hq
  exact hq
end Go.Proofs.YtpbhfckefmboaaaGreatDoor.Ba
