/- Rows of one's own: what their cells hold, and how they stay. Of any program. -/
import Derived.WalkKit
import Derived.Laws.AppendOwn
import Derived.WalkSmall
import Derived.Deep.MidRow
set_option linter.unusedVariables false
namespace Go.Base
open Go Go.RowKit
theorem own_cell {w : World} {base : Nat} {e : TypeId} {size n g cap : Nat} {xs : List Value} (h : w.ownsRow base e size (.slice (some ⟨g, 0, none⟩) n cap) n xs) {j : Nat} {v : Value} (hj : xs[j]? = some v) : w.cell? ⟨g, j, none⟩ = some v := by
  rcases h.2 with ⟨h1, _⟩ | ⟨g', cap', cur, h1, _, hg, hn, hm, hs, ht⟩
  · cases h1
  · cases h1
    have hl := h.1
    have hjl : j < xs.length := (List.getElem?_eq_some_iff.1 hj).1
    rw [← ht, List.getElem?_take_of_lt (by omega)] at hj
    simp only [World.cell?, hg]
    simpa using hj
theorem own_kept {w w' : World} {base s : Nat} {e : TypeId} {size n : Nat} {v : Value} {xs : List Value} (h : w.ownsRow base e size v n xs) (hs : w.heap.size ≤ s) (hb : Below s w w') : w'.ownsRow base e size v n xs := by
  refine h.kept (row := none) ⟨hb.os, hb.tape, hb.output, hb.size, fun k hk _ => hb.block k (Nat.lt_of_lt_of_le hk hs)⟩ ?_
  cases ho : v.ownBlock with
  | none => exact .inl rfl
  | some k => exact .inr (by simp)
theorem own_some {w : World} {base : Nat} {e : TypeId} {size n : Nat} {v : Value} {xs : List Value} (h : w.ownsRow base e size v n xs) (hn : 0 < n) : ∃ g cap, v = .slice (some ⟨g, 0, none⟩) n cap ∧ n ≤ cap ∧ base ≤ g ∧ g < w.heap.size := by
  rcases h.2 with ⟨h1, h2⟩ | ⟨g, cap, cur, h1, hb, hg, hc, _⟩
  · omega
  · exact ⟨g, cap, h1, hc, hb, (Array.getElem?_eq_some_iff.1 hg).1⟩
theorem own_base {w : World} {base base' : Nat} {e : TypeId} {size n : Nat} {v : Value} {xs : List Value} (h : w.ownsRow base e size v n xs) (hb : base' ≤ base) : w.ownsRow base' e size v n xs := by
  refine ⟨h.1, ?_⟩
  rcases h.2 with h1 | ⟨g, cap, cur, h1, hbg, r⟩
  · exact .inl h1
  · exact .inr ⟨g, cap, cur, h1, by omega, r⟩
theorem addr_add' (b o n : Nat) : (⟨b, o, none⟩ : Addr).add n = ⟨b, o + n, none⟩ := Addr.add_lit b o n
/-- a struct was stored into a block -/
structure Stored (w W : World) (b : Nat) (L : List Value) : Prop where
  at_ : W.rangeAt b 0 L
  frozen : ∀ a, W.frozen? a = w.frozen? a
  size : W.heap.size = w.heap.size
  cell : ∀ a : Addr, a.block ≠ b → W.cell? a = w.cell? a
  block : ∀ k, k ≠ b → W.heap[k]? = w.heap[k]?
  below : ∀ s x, s ≤ b → Below s x w → Below s x W
theorem below_setCells : ∀ (vs : List Value) (b o : Nat) {s : Nat} {x w : World}, s ≤ b → Below s x w → Below s x (w.setCells b o vs)
  | [], _, _, _, _, _, _, h => h
  | v :: l, b, o, _, _, w, hs, h => below_setCells l b (o + 1) hs (h.setCell (p := ⟨b, o, none⟩) hs v)
theorem size_setCells : ∀ (vs : List Value) (b o : Nat) (w : World), (w.setCells b o vs).heap.size = w.heap.size
  | [], _, _, _ => rfl
  | v :: l, b, o, w => (size_setCells l b (o + 1) _).trans (World.size_setCell w ⟨b, o, none⟩ v)
theorem block_setCells : ∀ (vs : List Value) (b o : Nat) (w : World) (k : Nat), k ≠ b → (w.setCells b o vs).heap[k]? = w.heap[k]?
  | [], _, _, _, _, _ => rfl
  | v :: l, b, o, w, k, hk => (block_setCells l b (o + 1) _ k hk).trans (Below.heap_setCell _ _ _ k (fun e => hk (by rw [e])))
theorem stored_setCells (w : World) (b : Nat) (L : List Value) (ht : w.there b 0 L.length) : Stored w (w.setCells b 0 L) b L :=
  ⟨World.rangeAt_setCells_same w b 0 L ht, fun a => World.frozen?_setCells b L 0 w a, size_setCells L b 0 w, fun a ha => World.cell?_setCells_out b L 0 w a (fun e => absurd e ha), fun k hk => block_setCells L b 0 w k hk, fun _ _ hs h => below_setCells L b 0 hs h⟩
theorem there_of_block {w : World} {b : Nat} {C : Array Value} {t : TypeId} (hb : w.heap[b]? = some (.cells C t (0, 0))) : w.there b 0 C.size := fun j hj => by
  constructor
  · simp [World.cell?, hb, hj]
  · simp [World.frozen?, hb]
def peek (W : World) (b j : Nat) : Value := (W.cell? ⟨b, j, none⟩).getD undef
theorem there_cell {W : World} {b n : Nat} (h : W.there b 0 n) (j : Nat) (hj : j < n) : W.cell? ⟨b, j, none⟩ = some (peek W b j) := by
  have := (h j hj).1
  rw [Nat.zero_add] at this
  obtain ⟨v, hv⟩ := Option.isSome_iff_exists.1 this
  rw [peek, hv]; rfl
theorem there_frozen {W : World} {b n : Nat} (h : W.there b 0 n) (j : Nat) (hj : j < n) : W.frozen? ⟨b, j, none⟩ = false := by
  have := (h j hj).2
  rwa [Nat.zero_add] at this
theorem Stored.keep {w W : World} {b : Nat} {L : List Value} (h : Stored w W b L) {a : Addr} {v : Value} (ha : w.cell? a = some v) (hb : a.block ≠ b) : W.cell? a = some v := (h.cell a hb).trans ha
theorem Stored.there {w W : World} {b : Nat} {L : List Value} (h : Stored w W b L) {n : Nat} (hn : n = L.length) (ht : w.there b 0 n) : W.there b 0 n := fun j hj => by
  refine ⟨?_, (h.frozen _).trans (ht j hj).2⟩
  obtain ⟨v, hv⟩ : ∃ v, L[j]? = some v := ⟨L[j]'(by omega), List.getElem?_eq_getElem (by omega)⟩
  rw [h.at_ j v hv]; rfl
section
variable {P : Program}
theorem step_store {w : World} {ops : Array Oper} {o : Oper} {a : Act} {K : Act → World → Prop} {Q : Exit → Act → World → Prop} {E : Prop} (hgd : o.guard = none) (ty : TypeId) (x y : Operand) (ho : o.op = .store ty x y)
    (b : Nat) (cells : Array Value) (hx : a.eval x = .pointer (some ⟨b, 0, none⟩)) (hy : a.eval y = .agg cells)
    (n : Nat) (ht : w.there b 0 n) (hn : cells.size = n) (hi : (P.info? ty).map (·.size) = some n) (h1 : cells.all (·.oneCell') = true)
    (h : ∀ W, Stored w W b cells.toList → K (a.put o.dst undef) W) :
    if Region.wanted o (yielded ops a.tmps) = true then Oper.wp P o a w K Q else E := by
  have hw : Region.wanted o (yielded ops a.tmps) = true := by simp [Region.wanted, hgd]
  rw [if_pos hw]
  subst hn
  exact wp_store_mid ty x y ho b 0 cells hx hy ht hi h1 (h _ (stored_setCells w b cells.toList (by simpa using ht)))
theorem wpList_store {w : World} {ops : Array Oper} {rest : List Oper} {op : Oper} {a : Act} {Q : Exit → Act → World → Prop} (hgd : op.guard = none) (ty : TypeId) (x y : Operand) (ho : op.op = .store ty x y)
    (b : Nat) (cells : Array Value) (hx : a.eval x = .pointer (some ⟨b, 0, none⟩)) (hy : a.eval y = .agg cells)
    (n : Nat) (ht : w.there b 0 n) (hn : cells.size = n) (hi : (P.info? ty).map (·.size) = some n) (h1 : cells.all (·.oneCell') = true)
    (h : ∀ W, Stored w W b cells.toList → wpList P ops Q rest (a.put op.dst undef) W) : wpList P ops Q (op :: rest) a w :=
  by subst hn; exact wpList_store_mid hgd ty x y ho b 0 cells hx hy ht hi h1 (h _ (stored_setCells w b cells.toList (by simpa using ht)))
end
end Go.Base
