/- The program's walk over a part's frames: what its iterator gives to a loop that keeps what lay below. -/
import Derived.Test.YtndgbfpcnkmihaaGreatDoorFrV
import Derived.Deep.RegionWith
import Derived.Deep.RegionHeld3
import Derived.Stop.RegionWithIn
import Derived.RangeFuncFrom
import Derived.RangeFuncLeaves
import Derived.OwnWalkIn
import Derived.TacticsInMore
import Derived.RegionIn
namespace Go.Proofs.YtndgbfpcnkmihaaGreatDoor.Sy
open Go Go.RowKit Go.Lib Go.Base Go.Proofs.YtndgbfpcnkmihaaGreatDoor.Ba Go.Proofs.YtndgbfpcnkmihaaGreatDoor
/-- what the iterator caught: the bytes, the log, the part -/
structure Caught (W : World) (Bb Bl Bp : Nat) (l : Lg) (p : Int) (bb bo bn bc n0 : Nat) : Prop where
  b : W.heap[Bb]? = some (.cells #[.slice (some ⟨bb, bo, none⟩) bn bc] 22)
  l : W.heap[Bl]? = some (.cells #[.int .i64 l.base, .int .i64 l.term, .int .i64 l.mtu, .int .i64 l.subs, .int .i32 l.ini, .int .i32 l.ses, .int .i32 l.str] 24)
  p : W.heap[Bp]? = some (.cells #[.int .i64 p] 3)
  lb : Bb < n0
  ll : Bl < n0
  lp : Bp < n0
theorem Caught.below {W W' : World} {Bb Bl Bp : Nat} {l : Lg} {p : Int} {bb bo bn bc n0 : Nat} (h : Caught W Bb Bl Bp l p bb bo bn bc n0) (hb : Below n0 W W') : Caught W' Bb Bl Bp l p bb bo bn bc n0 :=
  ⟨(hb.block _ h.lb).trans h.b, (hb.block _ h.ll).trans h.l, (hb.block _ h.lp).trans h.p, h.lb, h.ll, h.lp⟩
/-- what a round that goes on keeps: the three boxes and the bytes -/
structure KW (Bb Bl Bp bb : Nat) (W W' : World) : Prop where
  size : W.heap.size ≤ W'.heap.size
  b : W'.heap[Bb]? = W.heap[Bb]?
  l : W'.heap[Bl]? = W.heap[Bl]?
  p : W'.heap[Bp]? = W.heap[Bp]?
  y : W'.heap[bb]? = W.heap[bb]?
theorem KW.trans {Bb Bl Bp bb : Nat} {W1 W2 W3 : World} (h : KW Bb Bl Bp bb W1 W2) (k : KW Bb Bl Bp bb W2 W3) : KW Bb Bl Bp bb W1 W3 :=
  ⟨Nat.le_trans h.size k.size, k.b.trans h.b, k.l.trans h.l, k.p.trans h.p, k.y.trans h.y⟩
theorem KW.below {Bb Bl Bp bb s : Nat} {W W' : World} (h : Below s W W') (hb : Bb < s) (hl : Bl < s) (hp : Bp < s) (hy : bb < s) : KW Bb Bl Bp bb W W' :=
  ⟨h.size, h.block _ hb, h.block _ hl, h.block _ hp, h.block _ hy⟩
theorem Caught.kw {W W' : World} {Bb Bl Bp : Nat} {l : Lg} {p : Int} {bb bo bn bc n0 : Nat} (h : Caught W Bb Bl Bp l p bb bo bn bc n0) (hb : KW Bb Bl Bp bb W W') : Caught W' Bb Bl Bp l p bb bo bn bc n0 :=
  ⟨hb.b.trans h.b, hb.l.trans h.l, hb.p.trans h.p, h.lb, h.ll, h.lp⟩
theorem readsB_block {w w' : World} {b off n : Nat} {B : Nat → Nat} (h : ReadsB w b off n B) (e : w'.heap[b]? = w.heap[b]?) : ReadsB w' b off n B := fun j hj => by
  have := h j hj
  simp only [World.cell?] at this ⊢
  rw [e]
  exact this
theorem ar8 {x T k : Nat} (h : x + 32 ≤ T) (hk : k ≤ 24) : x + k + 8 ≤ T := by omega
theorem ar32 {x T : Nat} {t : Int} (h : x < T) (h1 : x % 32 = 0) (h2 : t = T) (h3 : t % 32 = 0) : x + 32 ≤ T := by omega
theorem ar64 {x T : Nat} {t k : Int} (h : x + 32 ≤ T) (h2 : t = T) (h3 : t ≤ 8192) (h4 : 0 ≤ k) (h5 : k ≤ 24) : wrap64 ((x : Int) + k) = (x : Int) + k := IntWalk.wrap64_in _ (by omega)
theorem arS {x T : Nat} {t : Int} (h : x + 32 ≤ T) (h2 : t = T) (h3 : t ≤ 8192) : wrap64 ((T : Int) - x) = (T : Int) - x := IntWalk.wrap64_in _ (by omega)
theorem arZ {x T z : Nat} {t : Int} (h : x + 32 ≤ T) (h2 : t = T) (h3 : t ≤ 8192) (h4 : (z : Int) ≤ (T : Int) - x) : wrap64 ((x : Int) + z) = ((x + z : Nat) : Int) := (IntWalk.wrap64_in _ (by omega)).trans (by omega)
theorem step_ar {x T z n : Nat} (h1 : T - x < 32 * (n + 1)) (h2 : 32 ≤ (z : Int)) (h3 : (z : Int) ≤ (T : Int) - x) (h4 : (z : Int) % 32 = 0) (h5 : x % 32 = 0) (hx : x < T) : x + z ≤ T ∧ T - (x + z) < 32 * n ∧ (x + z) % 32 = 0 ∧ T - (x + z) < T - x := by omega
theorem x32_le {x T : Nat} (h : x + 32 ≤ T) {t : Int} (ht : t = T) : (x : Int) + 32 ≤ t := by omega
theorem succ_of {x T n : Nat} (h : T - x < 32 * n) (_hx : x < T) : ∃ n', n = n' + 1 := ⟨n - 1, by omega⟩
theorem wkF_stop {l : Lg} {B : Nat → Nat} {p off : Int} {n : Nat} (h : ¬ (off + 32 ≤ l.term ∧ szI (lenF B (l.base + l.term * p + off)) (l.term - off) ≠ 0)) : wkF l B p n off = [] := by
  cases n with
  | zero => rfl
  | succ n => rw [wkF, if_neg h]
theorem wkF_go {l : Lg} {B : Nat → Nat} {p off X Z : Int} {n : Nat} (hX : l.base + p * l.term + off = X) (h1 : off + 32 ≤ l.term) (hZ : szI (lenF B X) (l.term - off) = Z) (h0 : Z ≠ 0) : wkF l B p (n + 1) off = snF B p off X :: wkF l B p n (off + Z) := by
  have e : l.base + l.term * p + off = X := by rw [Int.mul_comm]; exact hX
  rw [wkF, e, hZ, if_pos ⟨h1, h0⟩]
theorem pre_len {l : Lg} {B : Nat → Nat} {p off : Int} {n : Nat} {pre : List Sn} (ht : l.term ≤ 8192) (h : pre ++ wkF l B p n off = wkF l B p 300 0) : pre.length < 300 := by
  have h1 := congrArg List.length h
  rw [List.length_append] at h1
  have h2 := wkF_len l B p 300 0 (Int.le_refl _)
  omega
theorem YieldAt.monoR {F : Fence} {m : Nat} {P : Program} {l : Nat} {args : Array Value} {W : World} {R R' : Ending → World → Prop} (h : YieldAt F m P l args W R) (hr : ∀ e w, R e w → R' e w) : YieldAt F m P l args W R' := by
  obtain ⟨fn, tmps, assign, body, hy, hR⟩ := h
  exact ⟨fn, tmps, assign, body, hy, hR.mono hr⟩
theorem grown_of_below {W W' : World} (hb : Below W.heap.size W W') : W.grownBy W' none := ⟨hb.os, hb.tape, hb.output, hb.size, fun k hk _ => hb.block k hk⟩
def Sn.enc (x : Sn) : Value := .agg (Sn.cells x).toArray
theorem Caught.cells {W W' : World} {Bb Bl Bp : Nat} {l : Lg} {p : Int} {bb bo bn bc n0 : Nat} (h : Caught W Bb Bl Bp l p bb bo bn bc n0) (hb : Below n0 W W') (T : Int) (hT : l.term = T) : Below n0 W W' ∧ W'.cell? ⟨Bb, 0, none⟩ = some (.slice (some ⟨bb, bo, none⟩) bn bc) ∧ W'.cell? ⟨Bp, 0, none⟩ = some (.int .i64 p) ∧ W'.cell? ⟨Bl, 0, none⟩ = some (.int .i64 l.base) ∧ W'.cell? ⟨Bl, 1, none⟩ = some (.int .i64 T) ∧ W'.cell? ⟨Bl, 2, none⟩ = some (.int .i64 l.mtu) ∧ W'.cell? ⟨Bl, 3, none⟩ = some (.int .i64 l.subs) ∧ W'.cell? ⟨Bl, 4, none⟩ = some (.int .i32 l.ini) ∧ W'.cell? ⟨Bl, 5, none⟩ = some (.int .i32 l.ses) ∧ W'.cell? ⟨Bl, 6, none⟩ = some (.int .i32 l.str) := by
  subst hT
  obtain ⟨a, b, c, d, e, f, g⟩ := blk7 (h.below hb).l
  exact ⟨hb, cell_one (h.below hb).b, cell_one (h.below hb).p, a, b, c, d, e, f, g⟩
theorem set4 {w : World} {b : Nat} {t : TypeId} {v0 v1 v2 v3 : Value} (h : w.heap[b]? = some (.cells #[v0, v1, v2, v3] t)) (u : Value) :
    (w.setCell ⟨b, 0, none⟩ u).heap[b]? = some (.cells #[u, v1, v2, v3] t) ∧ (w.setCell ⟨b, 1, none⟩ u).heap[b]? = some (.cells #[v0, u, v2, v3] t) ∧ (w.setCell ⟨b, 2, none⟩ u).heap[b]? = some (.cells #[v0, v1, u, v3] t) ∧ (w.setCell ⟨b, 3, none⟩ u).heap[b]? = some (.cells #[v0, v1, v2, u] t) := by
  obtain ⟨hlt, hk⟩ := Array.getElem?_eq_some_iff.1 h
  refine ⟨?_, ?_, ?_, ?_⟩ <;> (show (w.heap.modify b _)[b]? = _; rw [Array.getElem?_eq_getElem (by rw [Array.size_modify]; exact hlt), Array.getElem_modify_self, hk]; rfl)
theorem blk4 {w : World} {b : Nat} {t : TypeId} {v0 v1 v2 v3 : Value} (h : w.heap[b]? = some (.cells #[v0, v1, v2, v3] t)) : w.cell? ⟨b, 0, none⟩ = some v0 ∧ w.cell? ⟨b, 1, none⟩ = some v1 ∧ w.cell? ⟨b, 2, none⟩ = some v2 ∧ w.cell? ⟨b, 3, none⟩ = some v3 ∧ w.frozen? ⟨b, 0, none⟩ = false ∧ w.frozen? ⟨b, 1, none⟩ = false ∧ w.frozen? ⟨b, 2, none⟩ = false ∧ w.frozen? ⟨b, 3, none⟩ = false := by
  refine ⟨?_, ?_, ?_, ?_, ?_, ?_, ?_, ?_⟩ <;> simp [World.cell?, World.frozen?, h]
set_option maxHeartbeats 6400000 in
set_option maxRecDepth 1000000 in
theorem walk54 (l : Lg) (hl : l.ok) (B : Nat → Nat) (hB : ∀ j, B j < 256) (bb bo bn bc : Nat) (hcap : bn ≤ bc) (hbn : bn < 4611686018427387904) (hth : l.there bn) (p : Int) (hp0 : 0 ≤ p) (hp3 : p < 3) (Bb Bl Bp n0 : Nat) (hbb : bb < n0)
    (ll m : Nat) (J Jx : List Sn → World → Prop) (W : World) (hn0 : n0 ≤ W.heap.size) (hJ : AbidesFrom W.heap.size J) (hC : Caught W Bb Bl Bp l p bb bo bn bc n0) (hr : ReadsB W bb bo bn B)
    (hY : ∀ pre x W1, J pre W1 → pre.length < 300 → YieldAt Fence.wide (m - 1) Tryz.prog ll #[Sn.enc x] W1 fun e W' =>
      (e = .returned (.bool true) ∧ J (pre ++ [x]) W' ∧ KW Bb Bl Bp bb W1 W') ∨ (e = .returned (.bool false) ∧ Jx (pre ++ [x]) W'))
    (h0 : J [] W) :
    Calls Tryz.prog 54 #[.func (.yield ll) #[] #[], .pointer (some ⟨Bb, 0, none⟩), .pointer (some ⟨Bl, 0, none⟩), .pointer (some ⟨Bp, 0, none⟩)] W fun e W' => (∃ v, e = .returned v) ∧ ((∃ xs, xs = wkF l B p 300 0 ∧ J xs W') ∨ (∃ pre, True ∧ Jx pre W')) := by
  have hlb := Lg.ok.bounds hl
  have ht32 : l.term % 32 = 0 := by rcases hl.1 with h | h | h | h | h | h <;> omega
  have hth2 := hth.2
  obtain ⟨T, hT⟩ : ∃ T : Nat, l.term = T := ⟨l.term.toNat, by omega⟩
  obtain ⟨pn, rfl⟩ : ∃ pn : Nat, p = pn := ⟨p.toNat, by omega⟩
  have hpT : (pn : Int) * l.term ≤ 2 * l.term := Int.mul_le_mul_of_nonneg_right (by omega) (by omega)
  have hpT0 : 0 ≤ (pn : Int) * l.term := Int.mul_nonneg hp0 (by omega)
  obtain ⟨S, hS⟩ : ∃ S : Nat, l.base + pn * l.term = S := ⟨(l.base + pn * l.term).toNat, by omega⟩
  have c55 := fun W => partAt_any l hl pn hp0 hp3 W
  unfold Lg.val at c55
  rw [hS] at c55
  have hST : S + T ≤ bn := by omega
  have HC := Lib.hid (And.intro hC (And.intro hr hn0))
  have HJ := Lib.hid hJ
  have HY := Lib.hid hY
  have H0 := Lib.hid h0
  have HP := Lib.hid (And.intro hlb (And.intro ht32 (And.intro hth2 (And.intro hp0 (And.intro hp3 (And.intro hth hS))))))
  have hsz := hn0
  have hT0 : 256 ≤ T := by omega
  clear hJ hY h0 hlb ht32 hth2 hpT hpT0 hC hr hn0 hth hS hp0 hp3
  have cS := fun {W'} (hb : Below n0 W W') => HC.out.1.cells hb T hT
  have hbs : ¬ bc = S := by omega
  have hSb : ¬ (bn : Int) < S := by omega
  have hSc : ¬ ((bc - S : Nat) : Int) < T := by omega
  rw [hT] at c55
  have hTc : (T : Int) ≤ ((bc - S : Nat) : Int) := by omega
  go_enter Tryz.func54, Tryz.ntmps54
  go_wp2_with fail
  go_region_held3 (fun W' => Below n0 W W' ∧ W'.cell? ⟨Bb, 0, none⟩ = some (.slice (some ⟨bb, bo, none⟩) bn bc) ∧ W'.cell? ⟨Bp, 0, none⟩ = some (.int .i64 pn) ∧ W'.cell? ⟨Bl, 0, none⟩ = some (.int .i64 l.base) ∧ W'.cell? ⟨Bl, 1, none⟩ = some (.int .i64 T) ∧ W'.cell? ⟨Bl, 2, none⟩ = some (.int .i64 l.mtu) ∧ W'.cell? ⟨Bl, 3, none⟩ = some (.int .i64 l.subs) ∧ W'.cell? ⟨Bl, 4, none⟩ = some (.int .i32 l.ini) ∧ W'.cell? ⟨Bl, 5, none⟩ = some (.int .i32 l.ses) ∧ W'.cell? ⟨Bl, 6, none⟩ = some (.int .i32 l.str))
    (first | exact cS (Below.drew (Below.refl _ _)) | exact cS (Below.refl _ _) | exact cS (by assumption) | exact cS (Below.drew (by assumption)) | exact cS (Below.trans (Below.drew (Below.refl _ _)) hB1) | exact cS (Below.trans (by assumption) hB1))
    ((go_at_call 55
      refine (c55 _).mono ?_
      rintro e w2 ⟨rfl, hB0⟩
      have hBW := (Below.drew (Below.refl W.heap.size W)).trans (hB0.mono (show W.heap.size ≤ _ by first | exact Nat.le_refl _ | simp))
      have hB1 := hB0.mono (show n0 ≤ _ by first | exact hsz | (simpa using hsz) | exact Nat.le_trans hsz (Below.size (by assumption)))))
  rename_i hHeld
  have HH := Lib.hid (show Below n0 W _ from hHeld.1)
  have HW2 := Lib.hid (show Below W.heap.size W w2 from hBW)
  clear hHeld cS c55 hTc
  go_wp2
  go_loopw [6] (fun o wr => ∃ (n : Nat) (pre : List Sn) (x : Nat), o = .int .i64 x ∧ x ≤ T ∧ T - x < 32 * n ∧ x % 32 = 0 ∧ pre ++ wkF l B pn n x = wkF l B pn 300 0 ∧ Hid (J pre wr ∧ KW Bb Bl Bp bb W wr)) (fun o _ => T - (intOf o).toNat)
  case atStart => exact ⟨300, [], 0, rfl, Nat.zero_le _, by have := HP.out.1; omega, rfl, rfl, Lib.hid ⟨HJ.out _ _ _ none H0.out (grown_of_below HW2.out) (fun r e => by cases e), KW.below HH.out HC.out.1.lb HC.out.1.ll HC.out.1.lp hbb⟩⟩
  case round =>
    obtain ⟨n, pre, x, rfl, hx, hn, hx32, hpre, G⟩ := hrel
    by_cases hc : x < T
    · have HN := Lib.hid (And.intro hn (And.intro hx32 (And.intro hpre hx)))
      clear hn hx32 hpre hx
      have hTx : (x : Int) < T := by omega
      obtain ⟨W1, hW1⟩ : ∃ W1, wr.alloc (.cells #[.int .u64 0, .int .u64 0, .int .u64 0, .int .u64 0] 107) = W1 := ⟨_, rfl⟩
      obtain ⟨A7, hA7⟩ : ∃ A7, wr.heap.size = A7 := ⟨_, rfl⟩
      have v1 : W1.heap[A7]? = some (.cells #[.int .u64 0, .int .u64 0, .int .u64 0, .int .u64 0] 107) := by rw [← hW1, ← hA7]; exact heap_new _ _
      have b1 : Below wr.heap.size wr W1 := by rw [← hW1]; exact (Below.refl _ _).alloc (Nat.le_refl _) _
      have hx4 : x + 32 ≤ T := ar32 hc HN.out.2.1 hT HP.out.2.1
      have hk0 : x + 0 + 8 ≤ T := ar8 (k := 0) hx4 (by decide)
      have hk8 : x + 8 + 8 ≤ T := ar8 (k := 8) hx4 (by decide)
      have hk16 : x + 16 + 8 ≤ T := ar8 (k := 16) hx4 (by decide)
      have hk24 : x + 24 + 8 ≤ T := ar8 (k := 24) hx4 (by decide)
      have ew0 : wrap64 (x : Int) = (x : Int) := by have := ar64 (k := 0) hx4 hT HP.out.1.2.2.2.1 (by decide) (by decide); rwa [Int.add_zero] at this
      have ew1 : wrap64 ((x : Int) + 8) = ((x : Int) + 8) := ar64 hx4 hT HP.out.1.2.2.2.1 (by decide) (by decide)
      have ew2 : wrap64 ((x : Int) + 16) = ((x : Int) + 16) := ar64 hx4 hT HP.out.1.2.2.2.1 (by decide) (by decide)
      have ew3 : wrap64 ((x : Int) + 24) = ((x : Int) + 24) := ar64 hx4 hT HP.out.1.2.2.2.1 (by decide) (by decide)
      have HC2 := Lib.hid (And.intro (HC.out.1.kw G.out.2) (And.intro (readsB_block HC.out.2.1 G.out.2.y) (show n0 ≤ wr.heap.size from Nat.le_trans HC.out.2.2 G.out.2.size)))
      have cN := fun (k : Nat) (hk : x + k + 8 ≤ T) (Wi : World) (hb : Below wr.heap.size wr Wi) => num_at bb (bo + S) T (bc - S) (fun j => B (S + j)) (fun _ => hB _) (by omega) (by omega) (x + k) 8 (by omega) (by omega) (by omega) Wi ((HC2.out.2.1.below (Nat.lt_of_lt_of_le hbb HC2.out.2.2) hb).drop S T hST)
      obtain ⟨a, ha⟩ : ∃ y, n8 B (S + x + 0 : Nat) = y := ⟨_, rfl⟩
      obtain ⟨b, hb⟩ : ∃ y, n8 B (S + x + 8 : Nat) = y := ⟨_, rfl⟩
      obtain ⟨c, hc'⟩ : ∃ y, n8 B (S + x + 16 : Nat) = y := ⟨_, rfl⟩
      obtain ⟨d, hd⟩ : ∃ y, n8 B (S + x + 24 : Nat) = y := ⟨_, rfl⟩
      obtain ⟨W2, hW2⟩ : ∃ W', W1.setCell ⟨A7, 0, none⟩ (.int .u64 a) = W' := ⟨_, rfl⟩
      have v2 : W2.heap[A7]? = some (.cells #[.int .u64 a, .int .u64 0, .int .u64 0, .int .u64 0] 107) := by rw [← hW2]; exact (set4 v1 _).1
      have b2 : Below wr.heap.size wr W2 := by rw [← hW2]; exact b1.setCell (p := ⟨A7, 0, none⟩) (Nat.le_of_eq hA7) _
      obtain ⟨W3, hW3⟩ : ∃ W', W2.setCell ⟨A7, 1, none⟩ (.int .u64 b) = W' := ⟨_, rfl⟩
      have v3 : W3.heap[A7]? = some (.cells #[.int .u64 a, .int .u64 b, .int .u64 0, .int .u64 0] 107) := by rw [← hW3]; exact (set4 v2 _).2.1
      have b3 : Below wr.heap.size wr W3 := by rw [← hW3]; exact b2.setCell (p := ⟨A7, 1, none⟩) (Nat.le_of_eq hA7) _
      obtain ⟨W4, hW4⟩ : ∃ W', W3.setCell ⟨A7, 2, none⟩ (.int .u64 c) = W' := ⟨_, rfl⟩
      have v4 : W4.heap[A7]? = some (.cells #[.int .u64 a, .int .u64 b, .int .u64 c, .int .u64 0] 107) := by rw [← hW4]; exact (set4 v3 _).2.2.1
      have b4 : Below wr.heap.size wr W4 := by rw [← hW4]; exact b3.setCell (p := ⟨A7, 2, none⟩) (Nat.le_of_eq hA7) _
      obtain ⟨W5, hW5⟩ : ∃ W', W4.setCell ⟨A7, 3, none⟩ (.int .u64 d) = W' := ⟨_, rfl⟩
      have v5 : W5.heap[A7]? = some (.cells #[.int .u64 a, .int .u64 b, .int .u64 c, .int .u64 d] 107) := by rw [← hW5]; exact (set4 v4 _).2.2.2
      have b5 : Below wr.heap.size wr W5 := by rw [← hW5]; exact b4.setCell (p := ⟨A7, 3, none⟩) (Nat.le_of_eq hA7) _
      have hnb := fun k => show ((numF (fun j => B (S + j)) (x + k) 8 : Nat) : Int) = n8 B ((S + x + k : Nat) : Int) by rw [numF_shift, n8, Int.toNat_natCast, Nat.add_assoc]
      have c19a : Calls Tryz.prog 19 #[.slice (some ⟨bb, bo + S, none⟩) T (bc - S), .int .i64 (x : Int), .int .i64 8] W1 (fun e w' => e = .returned (.int .u64 a) ∧ w' = W1) := by
        have h := cN 0 hk0 W1 b1
        rw [hnb, ha] at h
        exact h
      have c19b : Calls Tryz.prog 19 #[.slice (some ⟨bb, bo + S, none⟩) T (bc - S), .int .i64 ((x : Int) + 8), .int .i64 8] W2 (fun e w' => e = .returned (.int .u64 b) ∧ w' = W2) := by
        have h := cN 8 hk8 W2 b2
        rw [hnb, hb, show ((x + 8 : Nat) : Int) = (x : Int) + 8 from rfl] at h
        exact h
      have c19c : Calls Tryz.prog 19 #[.slice (some ⟨bb, bo + S, none⟩) T (bc - S), .int .i64 ((x : Int) + 16), .int .i64 8] W3 (fun e w' => e = .returned (.int .u64 c) ∧ w' = W3) := by
        have h := cN 16 hk16 W3 b3
        rw [hnb, hc', show ((x + 16 : Nat) : Int) = (x : Int) + 16 from rfl] at h
        exact h
      have c19d : Calls Tryz.prog 19 #[.slice (some ⟨bb, bo + S, none⟩) T (bc - S), .int .i64 ((x : Int) + 24), .int .i64 8] W4 (fun e w' => e = .returned (.int .u64 d) ∧ w' = W4) := by
        have h := cN 24 hk24 W4 b4
        rw [hnb, hd, show ((x + 24 : Nat) : Int) = (x : Int) + 24 from rfl] at h
        exact h
      have HV := Lib.hid (And.intro v5 (And.intro b5 (And.intro ha (And.intro hb (And.intro hc' hd)))))
      obtain ⟨k10, k11, k12, k13, k14, k15, k16, k17⟩ := blk4 v1
      obtain ⟨k20, k21, k22, k23, k24, k25, k26, k27⟩ := blk4 v2
      obtain ⟨k30, k31, k32, k33, k34, k35, k36, k37⟩ := blk4 v3
      obtain ⟨k40, k41, k42, k43, k44, k45, k46, k47⟩ := blk4 v4
      obtain ⟨k50, k51, k52, k53, _, _, _, _⟩ := blk4 v5
      clear cN hnb ha hb hc' hd b1 b2 b3 b4 b5 v1 v2 v3 v4 v5 hSb hSc hbs hST hcap hbn hsz hT0
      go_wp2_with fail
      refine wp_loop_rounds 5 ?_
      rw [rounds_succ]
      go_wp2_with (go_at_call 19; go_must (refine c19a.mono ?_; rintro e w' ⟨rfl, rfl⟩))
      rw [rounds_succ]
      go_wp2_with (go_at_call 19; go_must (refine c19b.mono ?_; rintro e w' ⟨rfl, rfl⟩))
      rw [rounds_succ]
      go_wp2_with (go_at_call 19; go_must (refine c19c.mono ?_; rintro e w' ⟨rfl, rfl⟩))
      rw [rounds_succ]
      go_wp2_with (go_at_call 19; go_must (refine c19d.mono ?_; rintro e w' ⟨rfl, rfl⟩))
      rw [rounds_succ]
      have habd := HV.out
      have hda := n8_bd hB (S + x + 0 : Nat)
      have hdb := n8_bd hB (S + x + 8 : Nat)
      have hdc := n8_bd hB (S + x + 16 : Nat)
      rw [habd.2.2.1] at hda
      rw [habd.2.2.2.1] at hdb
      rw [habd.2.2.2.2.1] at hdc
      have c56 := fun W => frame_any a b c d hda hdb hdc W
      unfold frameV at c56
      clear habd hda hdb hdc
      obtain ⟨f0, hf0⟩ : ∃ f, s32 (a % 4294967296) = f := ⟨_, rfl⟩
      obtain ⟨f1, hf1⟩ : ∃ f, a / 4294967296 % 256 = f := ⟨_, rfl⟩
      obtain ⟨f2, hf2⟩ : ∃ f, a / 1099511627776 % 256 = f := ⟨_, rfl⟩
      obtain ⟨f3, hf3⟩ : ∃ f, a / 281474976710656 = f := ⟨_, rfl⟩
      obtain ⟨f4, hf4⟩ : ∃ f, s32 (b % 4294967296) = f := ⟨_, rfl⟩
      obtain ⟨f5, hf5⟩ : ∃ f, s32 (b / 4294967296) = f := ⟨_, rfl⟩
      obtain ⟨f6, hf6⟩ : ∃ f, s32 (c % 4294967296) = f := ⟨_, rfl⟩
      obtain ⟨f7, hf7⟩ : ∃ f, s32 (c / 4294967296) = f := ⟨_, rfl⟩
      have hf0b : -2147483648 ≤ f0 ∧ f0 ≤ 2147483647 := by rw [← hf0]; exact s32_bd _
      simp only [hf0, hf1, hf2, hf3, hf4, hf5, hf6, hf7] at c56
      have HF := Lib.hid (And.intro hf0 (And.intro hf1 (And.intro hf2 (And.intro hf3 (And.intro hf4 (And.intro hf5 (And.intro hf6 hf7)))))))
      clear hf0 hf1 hf2 hf3 hf4 hf5 hf6 hf7
      have e3 : wrap64 ((T : Int) - x) = (T : Int) - x := arS hx4 hT HP.out.1.2.2.2.1
      have cS := fun W => size_at f0 ((T : Int) - x) hf0b.1 hf0b.2 W
      obtain ⟨Z, hZ⟩ : ∃ Z, szI f0 ((T : Int) - x) = Z := ⟨_, rfl⟩
      have hZb := szI_bd f0 ((T : Int) - x)
      rw [hZ] at cS hZb
      have HZ := Lib.hid (And.intro hZ (And.intro hZb hf0b))
      clear hZ hZb hf0b
      go_wp2_with (first
        | (go_at_call 56
           go_must (refine (c56 _).mono ?_
                    clear c56
                    rintro e w6 ⟨rfl, hB6⟩
                    obtain ⟨A9, hA9⟩ : ∃ A9, w6.heap.size = A9 := ⟨_, rfl⟩
                    obtain ⟨W7, hW7⟩ : ∃ W7, w6.alloc (.cells #[.int .i32 f0, .int .u8 f1, .int .u8 f2, .int .u16 f3, .int .i32 f4, .int .i32 f5, .int .i32 f6, .int .i32 f7, .int .u64 d] 40) = W7 := ⟨_, rfl⟩
                    have v7 : W7.heap[A9]? = some (.cells #[.int .i32 f0, .int .u8 f1, .int .u8 f2, .int .u16 f3, .int .i32 f4, .int .i32 f5, .int .i32 f6, .int .i32 f7, .int .u64 d] 40) := by rw [← hW7, ← hA9]; exact heap_new _ _
                    have b6 : Below wr.heap.size wr w6 := HV.out.2.1.trans (hB6.mono HV.out.2.1.size)
                    have b7 : Below wr.heap.size wr W7 := by rw [← hW7]; exact b6.alloc b6.size _
                    obtain ⟨p0, p1, p2, p3, p4, p5, p6, p7, p8, p9⟩ := blkF9 v7
                    have H7 := Lib.hid (And.intro v7 b7)
                    clear b6 b7 v7 hB6))
        | (go_at_call 32
           go_must (rw [e3]
                    refine (cS _).mono ?_
                    clear cS
                    rintro e w8 ⟨rfl, hB8⟩
                    have b8 : Below wr.heap.size wr w8 := H7.out.2.trans (hB8.mono H7.out.2.size)
                    have v8 : w8.heap[A9]? = _ := (hB8.block A9 (Array.getElem?_eq_some_iff.1 H7.out.1).1).trans H7.out.1
                    obtain ⟨q0, q1, q2, q3, q4, q5, q6, q7, q8, q9⟩ := blkF9 v8
                    have hcp := cell_one (HC2.out.1.below (b8.mono HC2.out.2.2)).p
                    have H8 := Lib.hid (And.intro v8 b8)
                    clear b8 v8 hB8 p0 p1 p2 p3 p4 p5 p6 p7 p8 p9)))
      have hJ8 := HJ.out _ _ _ none G.out.1 (grown_of_below H8.out.2) (fun r e => by cases e)
      by_cases hz : Z = 0
      · subst hz
        go_region
        go_wp2
        refine bodyPost_ret (results_none rfl _ _ _) rfl ?_
        refine ⟨⟨_, rfl⟩, .inl ⟨pre, ?_, HJ.out _ _ _ none hJ8 (grown_of_below (Below.drew (Below.refl _ _))) (fun r e => by cases e)⟩⟩
        have hl0 : lenF B (l.base + l.term * (pn : Int) + x) = f0 := by
          have h := HF.out.1
          have hv : n8 B ((S : Int) + x) = a := HV.out.2.2.1
          rw [lenF, ← h, ← hv, Int.mul_comm, HP.out.2.2.2.2.2.2]
        have hw : wkF l B pn n x = [] := wkF_stop (fun h => h.2 (by rw [hl0, hT]; exact HZ.out.1))
        have hp := HN.out.2.2.1
        rw [hw, List.append_nil] at hp
        exact hp
      · have hZ32 := HZ.out.2.1 hz
        obtain ⟨z, rfl⟩ : ∃ z : Nat, Z = z := ⟨Z.toNat, by omega⟩
        have hbeq : ((z : Int) == 0) = false := by simpa using hz
        obtain ⟨st, hst⟩ : ∃ st, sttF f0 f3 = st := ⟨_, rfl⟩
        have c57 := fun W => stateAt f0 f1 f2 f3 f4 f5 f6 f7 d W
        rw [hst] at c57
        have hYY := fun W9 (hJ9 : J pre W9) (h9 : Below wr.heap.size wr W9) (hlen : pre.length < 300) => YieldAt.monoR (HY.out pre (snF B pn x ((S : Int) + x)) W9 hJ9 hlen) (R' := fun e W' => ∃ b : Bool, e = .returned (.bool b) ∧ Hid ((b = true ∧ J (pre ++ [snF B pn x ((S : Int) + x)]) W' ∧ KW Bb Bl Bp bb wr W') ∨ (b = false ∧ Jx (pre ++ [snF B pn x ((S : Int) + x)]) W')))
          (fun e W' h => h.elim (fun h => ⟨true, h.1, Lib.hid (.inl ⟨rfl, h.2.1, (KW.below h9 (Nat.lt_of_lt_of_le HC2.out.1.lb HC2.out.2.2) (Nat.lt_of_lt_of_le HC2.out.1.ll HC2.out.2.2) (Nat.lt_of_lt_of_le HC2.out.1.lp HC2.out.2.2) (Nat.lt_of_lt_of_le hbb HC2.out.2.2)).trans h.2.2⟩)⟩) (fun h => ⟨false, h.1, Lib.hid (.inr ⟨rfl, h.2⟩)⟩))
        have henc : Sn.enc (snF B pn x ((S : Int) + x)) = .agg #[.int .i64 pn, .int .i64 x, .int .i32 f0, .int .u8 f1, .int .u8 f2, .int .u16 f3, .int .i32 f4, .int .i32 f5, .int .i32 f6, .int .i32 f7, .int .u64 d, .int .i64 st] := by
          have h := HF.out
          have hv := HV.out.2.2
          have k0 : n8 B ((S : Int) + x) = a := hv.1
          have k1 : n8 B ((S : Int) + x + 8) = b := hv.2.1
          have k2 : n8 B ((S : Int) + x + 16) = c := hv.2.2.1
          have k3 : n8 B ((S : Int) + x + 24) = d := hv.2.2.2
          simp only [Sn.enc, Sn.cells, snF, lenF, k0, k1, k2, k3, h.1, h.2.1, h.2.2.1, h.2.2.2.1, h.2.2.2.2.1, h.2.2.2.2.2.1, h.2.2.2.2.2.2.1, h.2.2.2.2.2.2.2, hst]
        rw [henc] at hYY
        have hlen : pre.length < 300 := pre_len HP.out.1.2.2.2.1 HN.out.2.2.1
        clear k10 k11 k12 k13 k14 k15 k16 k17 k20 k21 k22 k23 k24 k25 k26 k27 k30 k31 k32 k33 k34 k35 k36 k37 k40 k41 k42 k43 k44 k45 k46 k47 k50 k51 k52 k53 hk0 hk8 hk16 hk24 ew0 ew1 ew2 ew3 e3
        obtain ⟨K1, hK1⟩ : ∃ K1 : Act → World → Prop, K1 = fun (a : Act) (w10 : World) => ∃ (b : Bool) (u19 u20 u21 u22 u23 u24 u25 u26 u27 u28 u29 u30 u31 u32 u33 u34 u35 u36 u37 u38 u39 u40 u41 u42 u43 u44 u45 u46 u47 u48 u49 u50 u51 u52 u53 u54 u55 u57 u58 u59 : Value), a = { tmps := #[Value.func (Fn.yield ll) #[] #[], Value.pointer (some { block := Bb, off := 0 }), Value.pointer (some { block := Bl, off := 0 }), Value.pointer (some { block := Bp, off := 0 }), undef, Value.slice (some { block := bb, off := bo + S }) T (bc - S), Value.int IntKind.i64 (x : Int), Value.pointer (some { block := A7, off := 0 }), Value.int IntKind.i64 3, Value.pointer (some { block := A9, off := 0 }), Value.int IntKind.i64 (z : Int), Value.slice (some { block := bb, off := bo }) bn bc, Value.agg #[Value.int IntKind.i64 l.base, Value.int IntKind.i64 (T : Int), Value.int IntKind.i64 l.mtu, Value.int IntKind.i64 l.subs, Value.int IntKind.i32 l.ini, Value.int IntKind.i32 l.ses, Value.int IntKind.i32 l.str], Value.int IntKind.i64 (pn : Int), Value.int IntKind.i64 (S : Int), Value.slice (some { block := bb, off := bo + S }) (bn - S) (bc - S), Value.pointer (some { block := Bl, off := 1 }), Value.int IntKind.i64 (T : Int), Value.slice (some { block := bb, off := bo + S }) T (bc - S), u19, u20, u21, u22, u23, u24, u25, u26, u27, u28, u29, u30, u31, u32, u33, u34, u35, u36, u37, u38, u39, u40, u41, u42, u43, u44, u45, u46, u47, u48, u49, u50, u51, u52, u53, u54, u55, Value.bool (!b), u57, u58, u59], defers := [] } ∧ Hid ((b = true ∧ J (pre ++ [snF B pn x ((S : Int) + x)]) w10 ∧ KW Bb Bl Bp bb wr w10) ∨ (b = false ∧ Jx (pre ++ [snF B pn x ((S : Int) + x)]) w10)) := ⟨_, rfl⟩
        refine Code.wp_mono (Q := OnlyNormal K1) ?mo ?reg
        case mo =>
          intro e a' w10 hq
          cases e <;> try exact False.elim hq
          replace hq : K1 a' w10 := hq
          rw [hK1] at hq
          obtain ⟨b, u19, u20, u21, u22, u23, u24, u25, u26, u27, u28, u29, u30, u31, u32, u33, u34, u35, u36, u37, u38, u39, u40, u41, u42, u43, u44, u45, u46, u47, u48, u49, u50, u51, u52, u53, u54, u55, u57, u58, u59, rfl, h10⟩ := hq
          clear hK1 hYY c57 hbeq
          cases b with
          | false =>
            go_wp2
            refine bodyPost_ret (results_none rfl _ _ _) rfl ?_
            rcases h10.out with h | h
            · cases h.1
            · exact ⟨⟨_, rfl⟩, .inr ⟨_, h.2⟩⟩
          | true =>
            have hzx : wrap64 ((x : Int) + z) = ((x + z : Nat) : Int) := arZ hx4 hT HP.out.1.2.2.2.1 hZ32.2.1
            go_wp2
            have hk := h10.out
            obtain ⟨hJ10, hK10⟩ := hk.resolve_right (fun h => Bool.noConfusion h.1) |>.2
            obtain ⟨n, rfl⟩ := succ_of HN.out.1 hc
            have hl0 : lenF B ((S : Int) + x) = f0 := by
              have h := HF.out.1
              have hv : n8 B ((S : Int) + x) = a := HV.out.2.2.1
              rw [lenF, ← h, ← hv]
            have hgo := wkF_go (l := l) (B := B) (p := pn) (off := x) (X := (S : Int) + x) (Z := z) (n := n) (by rw [HP.out.2.2.2.2.2.2]) (x32_le hx4 hT) (by rw [hl0, hT]; exact HZ.out.1) hz
            have hp := HN.out.2.2.1
            rw [hgo] at hp
            have hst := step_ar HN.out.1 hZ32.1 hZ32.2.1 hZ32.2.2 HN.out.2.1 hc
            rw [List.append_cons] at hp
            refine ⟨⟨n, pre ++ [snF B pn x ((S : Int) + x)], x + z, ?_, hst.1, hst.2.1, hst.2.2.1, hp, Lib.hid ⟨hJ10, G.out.2.trans hK10⟩⟩, ?_⟩
            · rw [hzx]
            · rw [hzx]; exact hst.2.2.2
        case reg =>
          refine (wpIn_wide (n := m)).1 (region11 m ll Bp A9 pn x z st f0 f1 f2 f3 f4 f5 f6 f7 d _ _ _ _ _ _ _ _ _ _ _ _ _ _ _ _ _ _ _ _ _ _ _ _ _ _ _ _ _ _ _ _ _ _ _ _ _ _ _ _ _ _ _ _ _ _ _ _ _ _ _ _ _ _ _ K1 (fun b W' => Hid ((b = true ∧ J (pre ++ [snF B pn x ((S : Int) + x)]) W' ∧ KW Bb Bl Bp bb wr W') ∨ (b = false ∧ Jx (pre ++ [snF B pn x ((S : Int) + x)]) W'))) w8 hbeq c57 H8.out.1 (HC2.out.1.below (H8.out.2.mono HC2.out.2.2)).p ?_ ?_)
          · intro w9 hB89
            exact hYY w9 (HJ.out _ _ _ none hJ8 (grown_of_below hB89) (fun r e => by cases e)) (H8.out.2.trans (hB89.mono H8.out.2.size)) hlen
          · intro b w10 h
            rw [hK1]
            exact ⟨b, _, _, _, _, _, _, _, _, _, _, _, _, _, _, _, _, _, _, _, _, _, _, _, _, _, _, _, _, _, _, _, _, _, _, _, _, _, _, _, _, rfl, h⟩
    · go_wp2
      go_end0
      have : wkF l B pn n x = [] := by
        cases n with
        | zero => rfl
        | succ n => rw [wkF, if_neg (fun h => by have := h.1; omega)]
      rw [this, List.append_nil] at hpre
      exact ⟨⟨_, rfl⟩, .inl ⟨pre, hpre, G.out.1⟩⟩
end Go.Proofs.YtndgbfpcnkmihaaGreatDoor.Sy
