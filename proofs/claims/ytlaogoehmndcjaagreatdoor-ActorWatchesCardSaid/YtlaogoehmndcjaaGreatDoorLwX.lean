/- YtlaogoehmndcjaaGreatDoorLwA; YtlaogoehmndcjaaGreatDoorLwB; YtlaogoehmndcjaaGreatDoorLwC: in one text. -/
import Derived.Test.YtlaogoehmndcjaaGreatDoorTpN
import Derived.Test.YtlaogoehmndcjaaGreatDoorPlA
import Derived.Maps.AppendAt
set_option linter.unusedVariables false
/- Two accesses that are alike. -/
namespace Go.Proofs.YtlaogoehmndcjaaGreatDoor.Sy
open Go Go.RowKit Go.Lib Go.Base Go.Pr Go.Proofs.YtlaogoehmndcjaaGreatDoor.Ba
theorem blk6 {w : World} {b : Nat} {t : TypeId} {v0 v1 v2 v3 v4 v5 : Value} (h : w.heap[b]? = some (.cells #[v0, v1, v2, v3, v4, v5] t (0, 0))) : w.cell? ⟨b, 0, none⟩ = some v0 ∧ w.cell? ⟨b, 1, none⟩ = some v1 ∧ w.cell? ⟨b, 2, none⟩ = some v2 ∧ w.cell? ⟨b, 3, none⟩ = some v3 ∧ w.cell? ⟨b, 4, none⟩ = some v4 ∧ w.cell? ⟨b, 5, none⟩ = some v5 := by
  refine ⟨?_, ?_, ?_, ?_, ?_, ?_⟩ <;> simp [World.cell?, h]
set_option maxRecDepth 1000000 in
set_option maxHeartbeats 1600000 in
theorem same_acc (k p m v u : Int) (w : World) : Calls Tryz.prog 11 #[.agg #[.int .i64 k, .int .i64 p, .int .i64 m, .int .u64 v, .int .u64 u, .slice none 0 0], .agg #[.int .i64 k, .int .i64 p, .int .i64 m, .int .u64 v, .int .u64 u, .slice none 0 0]] w fun e w' => e = .returned (.bool true) ∧ Below w.heap.size w w' := by
  obtain ⟨X, hX⟩ : ∃ X, w.heap.size = X := ⟨_, rfl⟩
  obtain ⟨W1, hW1⟩ : ∃ W1, w.alloc (.cells #[.int .i64 k, .int .i64 p, .int .i64 m, .int .u64 v, .int .u64 u, .slice none 0 0] 34) = W1 := ⟨_, rfl⟩
  have s1 : W1.heap.size = X + 1 := by rw [← hW1, ← hX]; simp
  obtain ⟨W2, hW2⟩ : ∃ W2, W1.alloc (.cells #[.int .i64 k, .int .i64 p, .int .i64 m, .int .u64 v, .int .u64 u, .slice none 0 0] 34) = W2 := ⟨_, rfl⟩
  have r1 : W1.heap[X]? = some (.cells #[.int .i64 k, .int .i64 p, .int .i64 m, .int .u64 v, .int .u64 u, .slice none 0 0] 34) := by rw [← hW1, ← hX]; exact heap_new _ _
  have r2 : W2.heap[X]? = some (.cells #[.int .i64 k, .int .i64 p, .int .i64 m, .int .u64 v, .int .u64 u, .slice none 0 0] 34) := by rw [← hW2]; exact (Below.heap_alloc _ _ _ (by omega)).trans r1
  have r3 : W2.heap[X + 1]? = some (.cells #[.int .i64 k, .int .i64 p, .int .i64 m, .int .u64 v, .int .u64 u, .slice none 0 0] 34) := by rw [← hW2, ← s1]; exact heap_new _ _
  have HB := Lib.hid (show Below X w W2 by rw [← hW2, ← hW1, ← hX]; exact ((Below.refl _ _).alloc (Nat.le_refl _) _).alloc (by simp) _)
  obtain ⟨a0, a1, a2, a3, a4, a5⟩ := blk6 r2
  obtain ⟨b0, b1, b2, b3, b4, b5⟩ := blk6 r3
  have hcv : ∀ W : World, Sem.run Tryz.prog (convert 32 9 (.slice none 0 0)) W = .ok (.string ByteArray.empty) W := fun W => by kernel_rfl
  clear r1 r2 r3
  go_enter Tryz.func11, Tryz.ntmps11
  go_wp2
  go_ret
  exact ⟨by simp, hX ▸ HB.out⟩
end Go.Proofs.YtlaogoehmndcjaaGreatDoor.Sy

/- The watcher, apart from what is the law's own. -/
namespace Go.Proofs.YtlaogoehmndcjaaGreatDoor.Sy
open Go Go.RowKit Go.Lib Go.Base Go.Pr Go.Proofs.YtlaogoehmndcjaaGreatDoor.Ba
theorem Rep.move {l : Lg} {timeout c now : Int} {p : Pr Tld WO} {W W' : World} {τ : Nat → Nat × Nat} {O : Nat → Prop} (h : Rep l timeout c now p W τ O) (hk : ∀ b, b < W.heap.size → O b → W'.heap[b]? = W.heap[b]?) : Rep l timeout c now p W' τ (fun b => O b ∧ b < W.heap.size) := by
  cases h with
  | s0 hS ho hl a b d e => exact .s0 (hS.keep fun i hi => hk _ (hS.lt hi) (ho i hi)) (fun i hi => ⟨ho i hi, hS.lt hi⟩) hl a b d e
  | s1 hS ho a b => exact .s1 (hS.keep fun i hi => hk _ (hS.lt hi) (ho i hi)) (fun i hi => ⟨ho i hi, hS.lt hi⟩) a b
  | s11 hS ho a b => exact .s11 (hS.keep fun i hi => hk _ (hS.lt hi) (ho i hi)) (fun i hi => ⟨ho i hi, hS.lt hi⟩) a b
  | s2 hS ho hl a b d e => exact .s2 (hS.keep fun i hi => hk _ (hS.lt hi) (ho i hi)) (fun i hi => ⟨ho i hi, hS.lt hi⟩) hl a b d e
  | s3 hS ho hl a b d e => exact .s3 (hS.keep fun i hi => hk _ (hS.lt hi) (ho i hi)) (fun i hi => ⟨ho i hi, hS.lt hi⟩) hl a b d e
  | s4 hS ho hl a b d e f => exact .s4 (hS.keep fun i hi => hk _ (hS.lt hi) (ho i hi)) (fun i hi => ⟨ho i hi, hS.lt hi⟩) hl a b d e f
  | s5 hS ho hl a b d e f g i => exact .s5 (hS.keep fun i hi => hk _ (hS.lt hi) (ho i hi)) (fun i hi => ⟨ho i hi, hS.lt hi⟩) hl a b d e f g i
  | s6 hS ho hl a b d e f g i => exact .s6 (hS.keep fun i hi => hk _ (hS.lt hi) (ho i hi)) (fun i hi => ⟨ho i hi, hS.lt hi⟩) hl a b d e f g i
  | s7 hS ho hl a b d e f g => exact .s7 (hS.keep fun i hi => hk _ (hS.lt hi) (ho i hi)) (fun i hi => ⟨ho i hi, hS.lt hi⟩) hl a b d e f g
  | s8 hS ho hl a b d e f g i => exact .s8 (hS.keep fun i hi => hk _ (hS.lt hi) (ho i hi)) (fun i hi => ⟨ho i hi, hS.lt hi⟩) hl a b d e f g i
  | s9 hS ho hl a b d e f g i => exact .s9 (hS.keep fun i hi => hk _ (hS.lt hi) (ho i hi)) (fun i hi => ⟨ho i hi, hS.lt hi⟩) hl a b d e f g i
  | s10 hS ho hl a b d e f g i => exact .s10 (hS.keep fun i hi => hk _ (hS.lt hi) (ho i hi)) (fun i hi => ⟨ho i hi, hS.lt hi⟩) hl a b d e f g i
/-- what a call of the watcher leaves as it was: all below n0, and F's blocks -/
structure Kp (n0 : Nat) (F : Nat → Prop) (W W' : World) : Prop where
  os : W'.os = W.os
  tape : W'.tape = W.tape
  output : W'.output = W.output
  size : W.heap.size ≤ W'.heap.size
  block : ∀ b, b < W.heap.size → (b < n0 ∨ F b) → W'.heap[b]? = W.heap[b]?
theorem Kp.below {n0 : Nat} {F : Nat → Prop} {W W' : World} (h : Kp n0 F W W') (hn : n0 ≤ W.heap.size) : Below n0 W W' := ⟨h.os, h.tape, h.output, h.size, fun b hb => h.block b (by omega) (.inl hb)⟩
theorem Kp.at {n0 : Nat} {F : Nat → Prop} {W W' : World} (h : Kp n0 F W W') {b : Nat} {o : Obj} (hF : F b) (hb : W.heap[b]? = some o) : W'.heap[b]? = some o := (h.block b (Array.getElem?_eq_some_iff.1 hb).1 (.inr hF)).trans hb
structure RS (l : Lg) (timeout : Int) (n0 pa po : Nat) (c now : Int) (p : Pr Tld WO) (W : World) (F : Nat → Prop) : Prop where
  rep : ∃ τ O, (τ 0).1 = pa ∧ (τ 0).2 + 0 = po ∧ Rep l timeout c now p W τ O ∧ ∀ b, O b → n0 ≤ b ∧ b < W.heap.size ∧ ¬ F b
  n0 : n0 ≤ W.heap.size
  fb : ∀ b, F b → b < W.heap.size
section
variable {l : Lg} {timeout c now c' now' : Int} {n0 pa po : Nat} {p p' : Pr Tld WO} {W W' : World} {F F' : Nat → Prop}
theorem RS.grow (h : RS l timeout n0 pa po c now p W F) (hs : W.heap.size ≤ W'.heap.size) (hk : ∀ b, b < W.heap.size → ¬ F b → W'.heap[b]? = W.heap[b]?) (hF : ∀ b, F' b → F b ∨ W.heap.size ≤ b) (hb : ∀ b, F' b → b < W'.heap.size) : RS l timeout n0 pa po c now p W' F' := by
  obtain ⟨τ, O, h1, h2, hR, hO⟩ := h.rep
  refine ⟨⟨τ, _, h1, h2, hR.move (W' := W') (fun b hb hOb => hk b hb (hO b hOb).2.2), fun b hb => ⟨(hO b hb.1).1, Nat.lt_of_lt_of_le hb.2 hs, fun hf => ?_⟩⟩, Nat.le_trans h.n0 hs, hb⟩
  rcases hF b hf with h3 | h3
  · exact (hO b hb.1).2.2 h3
  · exact absurd hb.2 (by omega)
theorem RS.below (h : RS l timeout n0 pa po c now p W F) (hb : Below W.heap.size W W') : RS l timeout n0 pa po c now p W' F :=
  h.grow hb.size (fun b hb' _ => hb.block b hb') (fun b hF => .inl hF) (fun b hF => Nat.lt_of_lt_of_le (h.fb b hF) hb.size)
theorem RS.call {f : FuncId} {args : Array Value} {E : Ending → Prop} (h : RS l timeout n0 pa po c now p W F) {τ : Nat → Nat × Nat} {O : Nat → Prop} (h1 : (τ 0).1 = pa) (h2 : (τ 0).2 + 0 = po) (hO : ∀ b, O b → n0 ≤ b ∧ b < W.heap.size ∧ ¬ F b)
    (cl : Calls Tryz.prog f args W fun e w' => E e ∧ ∃ τ' O', τ' 0 = τ 0 ∧ Fr O O' W w' ∧ Rep l timeout c' now' p' w' τ' O') :
    Calls Tryz.prog f args W fun e w' => E e ∧ Kp n0 F W w' ∧ RS l timeout n0 pa po c' now' p' w' F := by
  refine cl.mono ?_
  rintro e w' ⟨hE, τ', O', ht, hF, hR⟩
  refine ⟨hE, ⟨hF.os, hF.tape, hF.output, hF.size, fun b hb hk => hF.block b hb (fun hOb => ?_)⟩, ⟨τ', _, by rw [ht]; exact h1, by rw [ht]; exact h2, hR.move (W' := w') (fun _ _ _ => rfl), fun b hb => ?_⟩, Nat.le_trans h.n0 hF.size, fun b hb => Nat.lt_of_lt_of_le (h.fb b hb) hF.size⟩
  · obtain ⟨a1, a2, a3⟩ := hO b hOb
    rcases hk with hk | hk
    · omega
    · exact a3 hk
  · refine ⟨?_, hb.2, fun hf => ?_⟩
    · rcases hF.new b hb.1 with h3 | h3
      · exact (hO b h3).1
      · exact Nat.le_trans h.n0 h3
    · rcases hF.new b hb.1 with h3 | h3
      · exact (hO b h3).2.2 hf
      · have := h.fb b hf; omega
theorem RS.next (h : RS l timeout n0 pa po c now p W F) (hT : TabAt 0 Lib.deBruijn64tab W) : Calls Tryz.prog 17 #[.pointer (some ⟨pa, po, none⟩)] W fun e w' => e = .returned (nextV p) ∧ Kp n0 F W w' ∧ RS l timeout n0 pa po c now p w' F := by
  obtain ⟨τ, O, h1, h2, hR, hO⟩ := h.rep
  have := h.call (E := fun e => e = .returned (nextV p)) h1 h2 hO (hR.next hT)
  rwa [h1, h2] at this
theorem RS.mend (h : RS l timeout n0 pa po c now p W F) (hT : TabAt 0 Lib.deBruijn64tab W) : Calls Tryz.prog 18 #[.pointer (some ⟨pa, po, none⟩)] W fun e w' => e = .returned (mendV p.obs) ∧ Kp n0 F W w' ∧ RS l timeout n0 pa po c now p w' F := by
  obtain ⟨τ, O, h1, h2, hR, hO⟩ := h.rep
  have := h.call (E := fun e => e = .returned (mendV p.obs)) h1 h2 hO (hR.mend hT)
  rwa [h1, h2] at this
theorem RS.bytes (h : RS l timeout n0 pa po c now p W F) (hT : TabAt 0 Lib.deBruijn64tab W) : Calls Tryz.prog 19 #[.pointer (some ⟨pa, po, none⟩)] W fun e w' => e = .returned (.int .i64 p.obs.1) ∧ Kp n0 F W w' ∧ RS l timeout n0 pa po c now p w' F := by
  obtain ⟨τ, O, h1, h2, hR, hO⟩ := h.rep
  have := h.call (E := fun e => e = .returned (.int .i64 p.obs.1)) h1 h2 hO (hR.bytes hT)
  rwa [h1, h2] at this
theorem RS.tick (h : RS l timeout n0 pa po c now p W F) (hT : TabAt 0 Lib.deBruijn64tab W) (now2 : Int) (hn : 0 ≤ now2 ∧ now2 ≤ 1125899906842624) : Calls Tryz.prog 20 #[.pointer (some ⟨pa, po, none⟩), .int .i64 now2] W fun e w' => e = .returned (.tuple #[]) ∧ Kp n0 F W w' ∧ RS l timeout n0 pa po c now2 p w' F := by
  obtain ⟨τ, O, h1, h2, hR, hO⟩ := h.rep
  have := h.call (E := fun e => e = .returned (.tuple #[])) h1 h2 hO (hR.tick hT now2 hn)
  rwa [h1, h2] at this
theorem RS.take (h : RS l timeout n0 pa po c now p W F) (hT : TabAt 0 Lib.deBruijn64tab W) (hc : c ≤ 900) (V : Int) (hV : 0 ≤ V ∧ V < 18446744073709551616) (dn : Bool) (ba : Option Addr) (bn bc : Nat) : Calls Tryz.prog 21 #[.pointer (some ⟨pa, po, none⟩), .agg #[.int .u64 V, .bool dn, .slice ba bn bc]] W fun e w' => e = .returned (.tuple #[]) ∧ Kp n0 F W w' ∧ RS l timeout n0 pa po (c + 1) now (p.run [⟨V, now⟩]) w' F := by
  obtain ⟨τ, O, h1, h2, hR, hO⟩ := h.rep
  have := h.call (E := fun e => e = .returned (.tuple #[])) h1 h2 hO (hR.take hT hc V hV dn ba bn bc)
  rwa [h1, h2] at this
end
/-- append, and where the row lies then -/
theorem wpList_append_at {P : Program} (w : World) {ops : Array Oper} {rest : List Oper} {o : Oper} {a : Act} {Q : Exit → Act → World → Prop} (hg : o.guard = none) (s x : Operand) (t : TypeId)
    (hop : o.op = .call { callee := .builtin .append, args := #[s, x], argTypes := #[t, t] })
    (base : Nat) (e : TypeId) (i : TypeInfo) (z : Value) (size bytes : Nat) (ht : P.underlying t = some (.slice e)) (hi : P.info? e = some i) (hz : i.zero = some z)
    (hsize : i.size = size) (hby : i.bytes = bytes) (hzs : z.cells.size = size) (hsz : 0 < size)
    (v : Value) (n : Nat) (xs : List Value) (hs : a.eval s = v) (hown : w.ownsRow base e size v n xs)
    (ad : Addr) (m c : Nat) (news : List Value) (hx : a.eval x = .slice (some ad) m c) (hl : news.length = m * size) (hnews : ∀ j u, news[j]? = some u → w.cell? (ad.add j) = some u) (h1 : ∀ u ∈ news, u.oneCell' = true)
    (h63 : n + m ≤ maxLen) (hbytes : (n + m) * bytes ≤ 140737488355328) (hbase : base ≤ w.heap.size)
    (h : ∀ v' w', w'.ownsRow base e size v' (n + m) (xs ++ news) → w.grownBy w' v.ownBlock → (v'.ownBlock = v.ownBlock ∨ v'.ownBlock = some w.heap.size) → wpList P ops Q rest (a.put o.dst v') w') : wpList P ops Q (o :: rest) a w := by
  refine wpList_plain hg fun K hK' => ?_
  obtain ⟨v', w', hrun, r1, r2, _, r3⟩ := run_append_own_at (P := P) (w := w) base t o.type e i z size bytes ht hi hz hsize hby hzs hsz v n xs hown ad m c news hl hnews h1 h63 hbytes hbase
  unfold Oper.wp
  simp [execOp, hop, resolve, invoke, builtin, hs, hx, hrun, Result.andThen]
  exact hK' _ _ (h v' w' r1 r2 r3)
/-- a row of one's own is a slice of that length -/
theorem owns_slice {w : World} {base : Nat} {e : TypeId} {size : Nat} {v : Value} {n : Nat} {xs : List Value} (h : w.ownsRow base e size v n xs) : ∃ ca cc, v = .slice ca n cc := by
  rcases h.2 with ⟨rfl, rfl⟩ | ⟨g, cap, cur, rfl, _⟩
  · exact ⟨_, _, rfl⟩
  · exact ⟨_, _, rfl⟩
theorem owns_cells {w : World} {base : Nat} {e : TypeId} {v : Value} {n : Nat} {xs : List Value} (h : w.ownsRow base e 1 v n xs) {j : Nat} {u : Value} (hj : xs[j]? = some u) : ∃ g cap, v = .slice (some ⟨g, 0, none⟩) n cap ∧ base ≤ g ∧ g < w.heap.size ∧ w.cell? ⟨g, 0 + j, none⟩ = some u := by
  rcases h with ⟨hl, ⟨rfl, rfl⟩ | ⟨g, cap, cur, rfl, hb, hg, hn, hm, hs, ht⟩⟩
  · obtain rfl : xs = [] := List.eq_nil_of_length_eq_zero (by simpa using hl)
    cases hj
  · refine ⟨g, cap, rfl, hb, (Array.getElem?_eq_some_iff.1 hg).1, ?_⟩
    have h1 : cur.toList[j]? = some u := by
      rw [← ht, List.getElem?_take] at hj
      split at hj
      · exact hj
      · cases hj
    rw [Array.getElem?_toList] at h1
    simp [World.cell?, hg, h1]
end Go.Proofs.YtlaogoehmndcjaaGreatDoor.Sy

/- The law's state, at a round's head and within a round. -/
namespace Go.Proofs.YtlaogoehmndcjaaGreatDoor.Sy
open Go Go.RowKit Go.Lib Go.Base Go.Pr Go.Proofs.YtlaogoehmndcjaaGreatDoor.Ba
def clk (L : List Tld) : List Value := L.map fun x => .int .i64 x.now
/-- what was told stands in the row: the numbers V -/
def Told (w : World) (ga : Option Addr) (n : Nat) (V : Nat → Int) : Prop := ∀ j, j < n → (0 ≤ V j ∧ V j < 18446744073709551616) ∧ ∃ gb go dn ba bn bc, ga = some ⟨gb, go, none⟩ ∧ w.cell? ⟨gb, go + j * 3, none⟩ = some (.int .u64 (V j)) ∧ w.cell? ⟨gb, go + j * 3 + 1, none⟩ = some (.bool dn) ∧ w.cell? ⟨gb, go + j * 3 + 2, none⟩ = some (.slice ba bn bc)
def Ticks (w : World) (ka : Option Addr) (kn : Nat) : Prop := ∀ j, j < kn → ∃ t kb ko, ka = some ⟨kb, ko, none⟩ ∧ w.cell? ⟨kb, ko + j, none⟩ = some (.int .i64 t)
theorem cell_below {n0 : Nat} {w w' : World} (hb : Below n0 w w') (hn : w.heap.size ≤ n0) {b o : Nat} {v : Value} (h : w.cell? ⟨b, o, none⟩ = some v) : w'.cell? ⟨b, o, none⟩ = some v :=
  (hb.cell (p := ⟨b, o, none⟩) (Nat.lt_of_lt_of_le (World.block_lt_of_cell? w _ h) hn)).trans h
/-- what is told, with the clocks -/
structure LV (V : Nat → Int) (L : List Tld) : Prop where
  vs : ∀ j x, L[j]? = some x → x.v = V j ∧ 0 ≤ x.now ∧ x.now ≤ 1125899906842624
/-- at a round's head -/
structure LS (l : Lg) (timeout times : Int) (n0 pa po : Nat) (now : Int) (V : Nat → Int) (L : List Tld) (W0 W : World) (cv : Value) : Prop where
  rs : RS l timeout n0 pa po L.length now ((treeOf l timeout times).run L) W (fun b => some b = cv.ownBlock)
  bl : Below n0 W0 W
  own : W.ownsRow n0 2 1 cv L.length (clk L)
  lv : LV V L
/-- within a round -/
structure PS (l : Lg) (timeout times : Int) (n0 pa po : Nat) (now : Int) (V : Nat → Int) (L : List Tld) (W0 W : World) (cv : Value) (Y A : Nat) (yo ao : Obj) : Prop where
  rs : RS l timeout n0 pa po L.length now ((treeOf l timeout times).run L) W (fun b => some b = cv.ownBlock ∨ b = Y ∨ b = A)
  bl : Below n0 W0 W
  own : W.ownsRow n0 2 1 cv L.length (clk L)
  tp : W.heap[Y]? = some yo
  ac : W.heap[A]? = some ao
  lv : LV V L
section
variable {l : Lg} {timeout times now now' : Int} {n0 pa po : Nat} {V : Nat → Int} {L : List Tld} {W0 W W' : World} {cv : Value} {Y A : Nat} {yo ao : Obj}
theorem tab_below (hT : TabAt 0 Lib.deBruijn64tab W0) (hn : 1 ≤ n0) (hb : Below n0 W0 W) : TabAt 0 Lib.deBruijn64tab W := tabB hT (hb.mono hn)
theorem PS.kp (h : PS l timeout times n0 pa po now V L W0 W cv Y A yo ao) (hk : Kp n0 (fun b => some b = cv.ownBlock ∨ b = Y ∨ b = A) W W') (hr : RS l timeout n0 pa po L.length now' ((treeOf l timeout times).run L) W' (fun b => some b = cv.ownBlock ∨ b = Y ∨ b = A)) : PS l timeout times n0 pa po now' V L W0 W' cv Y A yo ao where
  rs := hr
  bl := h.bl.trans (hk.below h.rs.n0)
  own := by
    rcases h.own with ⟨hl, hx | ⟨g, cap, cur, rfl, hb, hg, hrest⟩⟩
    · exact ⟨hl, .inl hx⟩
    · exact ⟨hl, .inr ⟨g, cap, cur, rfl, hb, hk.at (.inl rfl) hg, hrest⟩⟩
  tp := hk.at (.inr (.inl rfl)) h.tp
  ac := hk.at (.inr (.inr rfl)) h.ac
  lv := h.lv
theorem PS.below (h : PS l timeout times n0 pa po now V L W0 W cv Y A yo ao) (hb : Below W.heap.size W W') : PS l timeout times n0 pa po now V L W0 W' cv Y A yo ao where
  rs := h.rs.below hb
  bl := h.bl.trans (hb.mono h.rs.n0)
  own := by
    rcases h.own with ⟨hl, hx | ⟨g, cap, cur, rfl, hb2, hg, hrest⟩⟩
    · exact ⟨hl, .inl hx⟩
    · exact ⟨hl, .inr ⟨g, cap, cur, rfl, hb2, (hb.block g (Array.getElem?_eq_some_iff.1 hg).1).trans hg, hrest⟩⟩
  tp := (hb.block Y (Array.getElem?_eq_some_iff.1 h.tp).1).trans h.tp
  ac := (hb.block A (Array.getElem?_eq_some_iff.1 h.ac).1).trans h.ac
  lv := h.lv
/-- another block of the law's own -/
theorem PS.new (h : PS l timeout times n0 pa po now V L W0 W cv Y A yo ao) (o : Obj) : PS l timeout times n0 pa po now V L W0 (W.alloc o) cv Y W.heap.size yo o := by
  have hb : Below W.heap.size W (W.alloc o) := (Below.refl _ _).alloc (Nat.le_refl _) o
  have h2 := h.below hb
  refine ⟨h.rs.grow hb.size (fun b hb' _ => hb.block b hb') (fun b hF => ?_) (fun b hF => ?_), h2.bl, h2.own, h2.tp, heap_new _ _, h2.lv⟩
  · rcases hF with h3 | rfl | rfl
    · exact .inl (.inl h3)
    · exact .inl (.inr (.inl rfl))
    · exact .inr (Nat.le_refl _)
  · rcases hF with h3 | rfl | rfl
    · exact h2.rs.fb b (.inl h3)
    · exact h2.rs.fb _ (.inr (.inl rfl))
    · simp
/-- from a round's head: a tape, and whatever is done with it -/
theorem LS.tape (h : LS l timeout times n0 pa po now V L W0 W cv) (hb : Below W.heap.size W W') (ht : W'.heap[W.heap.size]? = some yo) : PS l timeout times n0 pa po now V L W0 W' cv W.heap.size W.heap.size yo yo := by
  have hs : W.heap.size < W'.heap.size := (Array.getElem?_eq_some_iff.1 ht).1
  refine ⟨h.rs.grow hb.size (fun b hb' _ => hb.block b hb') (fun b hF => ?_) (fun b hF => ?_), h.bl.trans (hb.mono h.rs.n0), ?_, ht, ht, h.lv⟩
  · rcases hF with h3 | rfl | rfl
    · exact .inl h3
    · exact .inr (Nat.le_refl _)
    · exact .inr (Nat.le_refl _)
  · rcases hF with h3 | rfl | rfl
    · exact Nat.lt_of_lt_of_le (h.rs.fb b h3) hb.size
    · exact hs
    · exact hs
  · rcases h.own with ⟨hl, hx | ⟨g, cap, cur, rfl, hb2, hg, hrest⟩⟩
    · exact ⟨hl, .inl hx⟩
    · exact ⟨hl, .inr ⟨g, cap, cur, rfl, hb2, (hb.block g (Array.getElem?_eq_some_iff.1 hg).1).trans hg, hrest⟩⟩
theorem PS.next (h : PS l timeout times n0 pa po now V L W0 W cv Y A yo ao) (hT : TabAt 0 Lib.deBruijn64tab W0) (hn : 1 ≤ n0) : Calls Tryz.prog 17 #[.pointer (some ⟨pa, po, none⟩)] W fun e w' => e = .returned (nextV ((treeOf l timeout times).run L)) ∧ PS l timeout times n0 pa po now V L W0 w' cv Y A yo ao :=
  (h.rs.next (tab_below hT hn h.bl)).mono fun _ _ ⟨a, b, c⟩ => ⟨a, h.kp b c⟩
theorem PS.mend (h : PS l timeout times n0 pa po now V L W0 W cv Y A yo ao) (hT : TabAt 0 Lib.deBruijn64tab W0) (hn : 1 ≤ n0) : Calls Tryz.prog 18 #[.pointer (some ⟨pa, po, none⟩)] W fun e w' => e = .returned (mendV ((treeOf l timeout times).run L).obs) ∧ PS l timeout times n0 pa po now V L W0 w' cv Y A yo ao :=
  (h.rs.mend (tab_below hT hn h.bl)).mono fun _ _ ⟨a, b, c⟩ => ⟨a, h.kp b c⟩
theorem PS.bytes (h : PS l timeout times n0 pa po now V L W0 W cv Y A yo ao) (hT : TabAt 0 Lib.deBruijn64tab W0) (hn : 1 ≤ n0) : Calls Tryz.prog 19 #[.pointer (some ⟨pa, po, none⟩)] W fun e w' => e = .returned (.int .i64 ((treeOf l timeout times).run L).obs.1) ∧ PS l timeout times n0 pa po now V L W0 w' cv Y A yo ao :=
  (h.rs.bytes (tab_below hT hn h.bl)).mono fun _ _ ⟨a, b, c⟩ => ⟨a, h.kp b c⟩
theorem PS.tick (h : PS l timeout times n0 pa po now V L W0 W cv Y A yo ao) (hT : TabAt 0 Lib.deBruijn64tab W0) (hn : 1 ≤ n0) (now2 : Int) (h2 : 0 ≤ now2 ∧ now2 ≤ 1125899906842624) : Calls Tryz.prog 20 #[.pointer (some ⟨pa, po, none⟩), .int .i64 now2] W fun e w' => e = .returned (.tuple #[]) ∧ PS l timeout times n0 pa po now2 V L W0 w' cv Y A yo ao :=
  (h.rs.tick (tab_below hT hn h.bl) now2 h2).mono fun _ _ ⟨a, b, c⟩ => ⟨a, h.kp b c⟩
/-- behind the append, ahead of the answer -/
structure QS (l : Lg) (timeout times : Int) (n0 pa po : Nat) (now : Int) (V : Nat → Int) (L : List Tld) (W0 W : World) (cv : Value) : Prop where
  rs : RS l timeout n0 pa po L.length now ((treeOf l timeout times).run L) W (fun b => some b = cv.ownBlock)
  bl : Below n0 W0 W
  own : W.ownsRow n0 2 1 cv (L.length + 1) (clk L ++ [.int .i64 now])
  lv : LV V L
theorem PS.app (h : PS l timeout times n0 pa po now V L W0 W cv Y A yo ao) {v' : Value} {o : Obj} (hown : W'.ownsRow n0 2 1 v' (L.length + 1) (clk L ++ [.int .i64 now])) (hg : (W.alloc o).grownBy W' cv.ownBlock) (hv : v'.ownBlock = cv.ownBlock ∨ v'.ownBlock = some (W.alloc o).heap.size) : QS l timeout times n0 pa po now V L W0 W' v' := by
  have hs0 : (W.alloc o).heap.size = W.heap.size + 1 := by simp
  have hb : Below W.heap.size W (W.alloc o) := (Below.refl _ _).alloc (Nat.le_refl _) o
  have hge : ∀ k, cv.ownBlock = some k → n0 ≤ k := fun k hk => (h.own.lt k hk).1
  have hs : W.heap.size ≤ W'.heap.size := by have := hg.size; omega
  refine ⟨h.rs.grow hs (fun b hb' hn => ?_) (fun b hF => ?_) (fun b hF => ?_), ?_, hown, h.lv⟩
  · refine (hg.block b (by omega) (fun e => hn (.inl e))).trans (hb.block b hb')
  · rcases hv with h3 | h3
    · exact .inl (.inl (by rw [hF, h3]))
    · rw [h3] at hF
      injection hF with hF
      exact .inr (by omega)
  · exact (hown.lt b (by rw [← hF])).2
  · exact (h.bl.trans (hb.mono h.rs.n0)).grown hg (by have := h.rs.n0; omega) hge
theorem QS.take (h : QS l timeout times n0 pa po now V L W0 W cv) (hT : TabAt 0 Lib.deBruijn64tab W0) (hn : 1 ≤ n0) (hL : L.length ≤ 900) (hw : 0 ≤ now ∧ now ≤ 1125899906842624) (hV : 0 ≤ V L.length ∧ V L.length < 18446744073709551616) (dn : Bool) (ba : Option Addr) (bn bc : Nat) :
    Calls Tryz.prog 21 #[.pointer (some ⟨pa, po, none⟩), .agg #[.int .u64 (V L.length), .bool dn, .slice ba bn bc]] W fun e w' => e = .returned (.tuple #[]) ∧ LS l timeout times n0 pa po now V (L ++ [⟨V L.length, now⟩]) W0 w' cv := by
  refine (h.rs.take (tab_below hT hn h.bl) (by omega) (V L.length) hV dn ba bn bc).mono ?_
  rintro e w' ⟨he, hk, hr⟩
  refine ⟨he, ⟨?_, h.bl.trans (hk.below h.rs.n0), ?_, ⟨fun j x hj => ?_⟩⟩⟩
  · rw [Pr.run_append]
    simpa using hr
  · have e1 : clk (L ++ [⟨V L.length, now⟩]) = clk L ++ [.int .i64 now] := by simp [clk]
    rw [e1, List.length_append]
    rcases h.own with ⟨hl, hx | ⟨g, cap, cur, rfl, hb, hg, hrest⟩⟩
    · exact ⟨hl, .inl hx⟩
    · exact ⟨hl, .inr ⟨g, cap, cur, rfl, hb, hk.at rfl hg, hrest⟩⟩
  · rcases Nat.lt_or_ge j L.length with h1 | h1
    · rw [List.getElem?_append_left h1] at hj
      exact h.lv.vs j x hj
    · rw [List.getElem?_append_right h1] at hj
      have h2 : j - L.length = 0 := by
        rcases Nat.eq_zero_or_pos (j - L.length) with h3 | h3
        · exact h3
        · rw [List.getElem?_eq_none (by simp; omega)] at hj; cases hj
      rw [h2] at hj
      injection hj with hj
      subst hj
      have : j = L.length := by omega
      subst this
      exact ⟨rfl, hw⟩
end
end Go.Proofs.YtlaogoehmndcjaaGreatDoor.Sy
