/- The search's state turned: a call marked as used and laid behind the row, and taken back. -/
import Derived.Test.YtkbbpjknakajeaaTMay
import Derived.Test.YtkbbpjknakajeaaTStep
namespace Go.Proofs.Ytkbbpjknakajeaa.Li
open Go.RowKit Go.Shelf Go.Sort
/-- all blocks but some are what they were -/
structure Agr (w w' : World) (X : List Nat) : Prop where
  os : w'.os = w.os
  tape : w'.tape = w.tape
  output : w'.output = w.output
  size : w.heap.size ≤ w'.heap.size
  block : ∀ k, k < w.heap.size → k ∉ X → w'.heap[k]? = w.heap[k]?
theorem Agr.of_below {w w' : World} {X : List Nat} (h : Below w.heap.size w w') : Agr w w' X := ⟨h.os, h.tape, h.output, h.size, fun k hk _ => h.block k hk⟩
theorem Agr.of_set (w : World) (a : Addr) (u : Value) {X : List Nat} (hX : a.block ∈ X) : Agr w (w.setCell a u) X := ⟨rfl, rfl, rfl, by simp [World.setCell], fun k _ hk => Below.heap_setCell w a u k (fun e => hk (e ▸ hX))⟩
theorem Agr.trans {w w1 w2 : World} {X : List Nat} (h : Agr w w1 X) (k : Agr w1 w2 X) : Agr w w2 X :=
  ⟨k.os.trans h.os, k.tape.trans h.tape, k.output.trans h.output, Nat.le_trans h.size k.size, fun j hj hn => (k.block j (by have := h.size; omega) hn).trans (h.block j hj hn)⟩
theorem Agr.below {B : Nat} {w0 w w' : World} {X : List Nat} (h : Below B w0 w) (k : Agr w w' X) (hB : B ≤ w0.heap.size) (hX : ∀ x ∈ X, B ≤ x) : Below B w0 w' :=
  ⟨k.os.trans h.os, k.tape.trans h.tape, k.output.trans h.output, Nat.le_trans h.size k.size, fun j hj => (k.block j (by have := h.size; omega) (fun hx => by have := hX j hx; omega)).trans (h.block j hj)⟩
/-- what the search leaves: all but the finder, its marks and its row, which may have got a new place -/
structure Kept (w w' : World) (fb ub : Nat) (v v' : Value) : Prop where
  agr : Agr w w' (fb :: ub :: v.ownBlock.toList)
  own : ∀ g, v'.ownBlock = some g → v.ownBlock = some g ∨ w.heap.size ≤ g
theorem Kept.of_below {w w' : World} {fb ub : Nat} {v : Value} (h : Below w.heap.size w w') : Kept w w' fb ub v v := ⟨.of_below h, fun _ h => .inl h⟩
theorem Kept.trans {w w1 w2 : World} {fb ub : Nat} {v v1 v2 : Value} (h : Kept w w1 fb ub v v1) (k : Kept w1 w2 fb ub v1 v2) : Kept w w2 fb ub v v2 := by
  refine ⟨⟨k.agr.os.trans h.agr.os, k.agr.tape.trans h.agr.tape, k.agr.output.trans h.agr.output, Nat.le_trans h.agr.size k.agr.size, fun j hj hn => ?_⟩, fun g hg => ?_⟩
  · refine (k.agr.block j (by have := h.agr.size; omega) (fun hx => ?_)).trans (h.agr.block j hj hn)
    simp only [List.mem_cons, Option.mem_toList] at hx hn
    rcases hx with rfl | rfl | hx
    · exact hn (.inl rfl)
    · exact hn (.inr (.inl rfl))
    · rcases h.own j hx with h1 | h1
      · exact hn (.inr (.inr h1))
      · omega
  · rcases k.own g hg with h1 | h1
    · exact h.own g h1
    · exact .inr (Nat.le_trans h.agr.size h1)
theorem own_keep {w w' : World} {base : Nat} {e : TypeId} {size n : Nat} {v : Value} {xs : List Value} (h : w.ownsRow base e size v n xs) (hs : ∀ g, v.ownBlock = some g → w'.heap[g]? = w.heap[g]?) : w'.ownsRow base e size v n xs := by
  refine ⟨h.1, ?_⟩
  rcases h.2 with hn | ⟨g, cap, cur, hv, hb, hg, rest⟩
  · exact .inl hn
  · exact .inr ⟨g, cap, cur, hv, hb, (hs g (by rw [hv]; rfl)).trans hg, rest⟩
/-- a call is marked, and stands behind the row -/
theorem FS.mark {w W : World} {B fb ub bl ol cl : Nat} {l : Array QOp} {v v2 : Value} {p : List Int} {i : Nat} (h : FS w B fb ub bl ol cl l v p) (hi : i < l.size) (_hBw : B ≤ w.heap.size)
    (hk : Agr w W v.ownBlock.toList) (row : W.ownsRow B 3 1 v2 (p.length + 1) (p.map (Value.int .i64) ++ [.int .i64 i])) (hv2 : ∀ g, v2.ownBlock = some g → v.ownBlock = some g ∨ w.heap.size ≤ g) :
    FS ((W.setCell ⟨ub, i, none⟩ (.bool true)).setCell ⟨fb, 2, none⟩ v2) B fb ub bl ol cl l v2 (p ++ [(i : Int)]) ∧ Kept w ((W.setCell ⟨ub, i, none⟩ (.bool true)).setCell ⟨fb, 2, none⟩ v2) fb ub v v2 := by
  have hfv : fb ∉ v.ownBlock.toList := fun hx => (h.ov fb (by simpa using hx)).1 rfl
  have huv : ub ∉ v.ownBlock.toList := fun hx => (h.ov ub (by simpa using hx)).2 rfl
  have hbv : bl ∉ v.ownBlock.toList := fun hx => by have := (h.row.lt bl (by simpa using hx)).1; have := h.bB; omega
  have hfb : W.heap[fb]? = w.heap[fb]? := hk.block fb h.fsz hfv
  have hub : W.heap[ub]? = w.heap[ub]? := hk.block ub h.usz huv
  have hbl : W.heap[bl]? = w.heap[bl]? := hk.block bl h.bsz hbv
  have hne := h.fu_ne
  have hB1 := h.Bf
  have hB2 := h.Bu
  have hbB := h.bB
  have hsz := hk.size
  have key : ∀ j, j ≠ fb → j ≠ ub → ((W.setCell ⟨ub, i, none⟩ (.bool true)).setCell ⟨fb, 2, none⟩ v2).heap[j]? = W.heap[j]? := fun j h1 h2 => by
    rw [Below.heap_setCell _ _ _ _ h1, Below.heap_setCell _ _ _ _ h2]
  have c2W : (W.setCell ⟨ub, i, none⟩ (.bool true)).cell? ⟨fb, 2, none⟩ = some v := by
    rw [World.cell?_setCell_far _ _ _ _ hne.symm, World.cell?_of_block (a := ⟨fb, 2, none⟩) hfb]; exact h.c2
  refine ⟨{ h with
    c0 := by rw [World.cell?_setCell_other _ _ _ _ (by simp), World.cell?_setCell_far _ _ _ _ hne.symm, World.cell?_of_block (a := ⟨fb, 0, none⟩) hfb]; exact h.c0
    c1 := by rw [World.cell?_setCell_other _ _ _ _ (by simp), World.cell?_setCell_far _ _ _ _ hne.symm, World.cell?_of_block (a := ⟨fb, 1, none⟩) hfb]; exact h.c1
    c2 := World.cell?_setCell_same _ _ _ c2W
    f2 := by rw [World.frozen?_setCell, World.frozen?_setCell, World.frozen?_of_block (a := ⟨fb, 2, none⟩) hfb]; exact h.f2
    u := fun j hj => by
      rw [World.cell?_setCell_far _ _ _ _ hne]
      by_cases hji : i = j
      · subst hji
        rw [World.cell?_setCell_same _ _ _ ((World.cell?_of_block (a := ⟨ub, i, none⟩) hub).trans (h.u i hi))]
        simp
      · rw [World.cell?_setCell_other _ _ _ _ (by simp), World.cell?_of_block (a := ⟨ub, j, none⟩) hub, h.u j hj]
        have : ((j : Int) ∈ p ++ [(i : Int)]) ↔ (j : Int) ∈ p := by
          simp only [List.mem_append, List.mem_singleton]
          constructor
          · rintro (h1 | h1)
            · exact h1
            · omega
          · exact .inl
        simp only [this]
    fu := fun j => by rw [World.frozen?_setCell, World.frozen?_setCell, World.frozen?_of_block (a := ⟨ub, j, none⟩) hub]; exact h.fu j
    row := by
      have hr := own_keep (w' := (W.setCell ⟨ub, i, none⟩ (.bool true)).setCell ⟨fb, 2, none⟩ v2) row fun g hg => key g (fun e => ?_) (fun e => ?_)
      · simpa using hr
      · rcases hv2 g hg with h1 | h1
        · exact (h.ov g h1).1 e
        · have := h.fsz; omega
      · rcases hv2 g hg with h1 | h1
        · exact (h.ov g h1).2 e
        · have := h.usz; omega
    q := fun j hj => by
      have hq := h.q j hj
      have e : ((W.setCell ⟨ub, i, none⟩ (.bool true)).setCell ⟨fb, 2, none⟩ v2).heap[bl]? = w.heap[bl]? := (key bl (by omega) (by omega)).trans hbl
      exact ⟨(World.cell?_of_block (a := ⟨bl, ol + j * 4, none⟩) e).trans hq.1, (World.cell?_of_block (a := ⟨bl, ol + j * 4 + 1, none⟩) e).trans hq.2.1, (World.cell?_of_block (a := ⟨bl, ol + j * 4 + 2, none⟩) e).trans hq.2.2.1, (World.cell?_of_block (a := ⟨bl, ol + j * 4 + 3, none⟩) e).trans hq.2.2.2⟩
    ov := fun g hg => by
      rcases hv2 g hg with h1 | h1
      · exact h.ov g h1
      · have := h.fsz
        have := h.usz
        exact ⟨by omega, by omega⟩
    bsz := by simp [World.setCell]; have := h.bsz; omega
    fsz := by simp [World.setCell]; have := h.fsz; omega
    usz := by simp [World.setCell]; have := h.usz; omega }, ⟨⟨hk.os, hk.tape, hk.output, by simpa [World.setCell] using hsz, fun j hj hn => ?_⟩, hv2⟩⟩
  simp only [List.mem_cons, not_or] at hn
  rw [key j hn.1 hn.2.1]
  exact hk.block j hj hn.2.2
/-- and is taken back -/
theorem FS.unmark {w : World} {B fb ub bl ol cl g cap : Nat} {l : Array QOp} {p : List Int} {i : Nat} (h : FS w B fb ub bl ol cl l (.slice (some ⟨g, 0, none⟩) (p.length + 1) cap) (p ++ [(i : Int)])) (hi : i < l.size) (hp : (i : Int) ∉ p) :
    FS ((w.setCell ⟨ub, i, none⟩ (.bool false)).setCell ⟨fb, 2, none⟩ (.slice (some ⟨g, 0, none⟩) p.length cap)) B fb ub bl ol cl l (.slice (some ⟨g, 0, none⟩) p.length cap) p ∧
      Kept w ((w.setCell ⟨ub, i, none⟩ (.bool false)).setCell ⟨fb, 2, none⟩ (.slice (some ⟨g, 0, none⟩) p.length cap)) fb ub (.slice (some ⟨g, 0, none⟩) (p.length + 1) cap) (.slice (some ⟨g, 0, none⟩) p.length cap) := by
  have hne := h.fu_ne
  have hB1 := h.Bf
  have hB2 := h.Bu
  have hbB := h.bB
  obtain ⟨o1, o2⟩ := h.ov g rfl
  have key : ∀ j, j ≠ fb → j ≠ ub → ((w.setCell ⟨ub, i, none⟩ (.bool false)).setCell ⟨fb, 2, none⟩ (.slice (some ⟨g, 0, none⟩) p.length cap)).heap[j]? = w.heap[j]? := fun j h1 h2 => by
    rw [Below.heap_setCell _ _ _ _ h1, Below.heap_setCell _ _ _ _ h2]
  refine ⟨{ h with
    c0 := by rw [World.cell?_setCell_other _ _ _ _ (by simp), World.cell?_setCell_far _ _ _ _ hne.symm]; exact h.c0
    c1 := by rw [World.cell?_setCell_other _ _ _ _ (by simp), World.cell?_setCell_far _ _ _ _ hne.symm]; exact h.c1
    c2 := World.cell?_setCell_same _ _ _ ((World.cell?_setCell_far _ _ _ _ hne.symm).trans h.c2)
    f2 := by rw [World.frozen?_setCell, World.frozen?_setCell]; exact h.f2
    u := fun j hj => by
      rw [World.cell?_setCell_far _ _ _ _ hne]
      by_cases hji : i = j
      · subst hji
        rw [World.cell?_setCell_same _ _ _ (h.u i hi), decide_eq_false hp]
      · rw [World.cell?_setCell_other _ _ _ _ (by simp), h.u j hj]
        have : ((j : Int) ∈ p ++ [(i : Int)]) ↔ (j : Int) ∈ p := by
          simp only [List.mem_append, List.mem_singleton]
          constructor
          · rintro (h1 | h1)
            · exact h1
            · omega
          · exact .inl
        simp only [this]
    fu := fun j => by rw [World.frozen?_setCell, World.frozen?_setCell]; exact h.fu j
    row := by
      rcases h.row.2 with ⟨hv, _⟩ | ⟨g', cap', cur, hv, hb, hg, hn, hm, hs, ht⟩
      · cases hv
      · simp only [Value.slice.injEq, Option.some.injEq, Addr.mk.injEq, and_true] at hv
        obtain ⟨rfl, _, rfl⟩ := hv
        refine ⟨by simp, .inr ⟨g, cap, cur, rfl, hb, (key g o1 o2).trans hg, by simp at hn; omega, hm, hs, ?_⟩⟩
        have h1 := congrArg (List.take (p.length * 1)) ht
        rw [List.take_take] at h1
        simp only [List.length_append, List.length_cons, List.length_nil, Nat.mul_one] at h1
        rw [show min p.length (p.length + (0 + 1)) = p.length by omega] at h1
        rw [Nat.mul_one, h1]
        simp
    q := fun j hj => by
      have hq := h.q j hj
      have e := key bl (by omega) (by omega)
      exact ⟨(World.cell?_of_block (a := ⟨bl, ol + j * 4, none⟩) e).trans hq.1, (World.cell?_of_block (a := ⟨bl, ol + j * 4 + 1, none⟩) e).trans hq.2.1, (World.cell?_of_block (a := ⟨bl, ol + j * 4 + 2, none⟩) e).trans hq.2.2.1, (World.cell?_of_block (a := ⟨bl, ol + j * 4 + 3, none⟩) e).trans hq.2.2.2⟩
    ov := fun g' hg' => h.ov g' hg'
    bsz := by simp [World.setCell]; exact h.bsz
    fsz := by simp [World.setCell]; exact h.fsz
    usz := by simp [World.setCell]; exact h.usz }, ⟨⟨rfl, rfl, rfl, by simp [World.setCell], fun j hj hn => ?_⟩, fun g' hg' => .inl hg'⟩⟩
  simp only [List.mem_cons, not_or] at hn
  exact key j hn.1 hn.2.1
end Go.Proofs.Ytkbbpjknakajeaa.Li
