/- What stands while counters are asked for and count, and how each call turns it. -/
import Derived.Test.YtkbbpjknakajeaaPPln
namespace Go.Proofs.Ytkbbpjknakajeaa
open Go Go.AE Go.RowKit
open Go.ChangeMaps (setBlock)
/-- all blocks but some are what they were -/
structure Agr (w w' : World) (X : List Nat) : Prop where
  os : w'.os = w.os
  tape : w'.tape = w.tape
  output : w'.output = w.output
  size : w.heap.size ≤ w'.heap.size
  block : ∀ k, k < w.heap.size → k ∉ X → w'.heap[k]? = w.heap[k]?
theorem Agr.of_below {w w' : World} (h : RowKit.Below w.heap.size w w') : Agr w w' [] := ⟨h.os, h.tape, h.output, h.size, fun k hk _ => h.block k hk⟩
theorem Agr.of_set (w : World) (a : Addr) (u : Value) : Agr w (w.setCell a u) [a.block] := ⟨rfl, rfl, rfl, by simp [World.setCell], fun k _ hk => Below.heap_setCell w a u k (by simpa using hk)⟩
theorem Agr.below {B : Nat} {w0 w w' : World} {X : List Nat} (h : RowKit.Below B w0 w) (k : Agr w w' X) (hB : B ≤ w0.heap.size) (hX : ∀ x ∈ X, B ≤ x) : RowKit.Below B w0 w' :=
  ⟨k.os.trans h.os, k.tape.trans h.tape, k.output.trans h.output, Nat.le_trans h.size k.size, fun j hj => (k.block j (by have := h.size; omega) (fun hx => by have := hX j hx; omega)).trans (h.block j hj)⟩
theorem own_same {w w' : World} {base : Nat} {e : TypeId} {size n : Nat} {v : Value} {xs : List Value} (h : w.ownsRow base e size v n xs) (hs : ∀ g, v.ownBlock = some g → w'.heap[g]? = w.heap[g]?) : w'.ownsRow base e size v n xs := by
  refine ⟨h.1, ?_⟩
  rcases h.2 with hn | ⟨g, cap, cur, hv, hb, hg, rest⟩
  · exact .inl hn
  · exact .inr ⟨g, cap, cur, hv, hb, (hs g (by rw [hv]; rfl)).trans hg, rest⟩
theorem own_mono {w : World} {base base' : Nat} {e : TypeId} {size n : Nat} {v : Value} {xs : List Value} (h : w.ownsRow base e size v n xs) (hb : base' ≤ base) : w.ownsRow base' e size v n xs := by
  refine ⟨h.1, ?_⟩
  rcases h.2 with hn | ⟨g, cap, cur, hv, hb2, rest⟩
  · exact .inl hn
  · exact .inr ⟨g, cap, cur, hv, Nat.le_trans hb hb2, rest⟩
/-- a counter: its name, where it stands, where it counts, what it has counted; whether it has counted -/
structure Ent where
  n : ByteArray
  b : Nat
  yb : Nat
  yo : Nat
  z : Int
  u : Bool
def Ent.nb (e : Ent) : ByteArray × Nat := (e.n, e.b)
def Ent.nz (e : Ent) : ByteArray × Int := (e.n, e.z)
def Ent.fp (e : Ent) : List Nat := if e.u then [e.b, e.yb] else [e.b]
def Ent.at_ (w : World) (e : Ent) : Prop := if e.u then Used w e.b e.yb e.yo e.z else (w.heap[e.b]? = some freshC ∧ e.z = 0)
theorem Ent.at_.same {w w' : World} {e : Ent} (h : e.at_ w) (hs : ∀ x ∈ e.fp, w'.heap[x]? = w.heap[x]?) : e.at_ w' := by
  unfold Ent.at_ Ent.fp at *
  cases hu : e.u with
  | true =>
    rw [hu] at h hs
    simp only [if_true] at h hs ⊢
    exact h.same (hs _ (by simp)) (hs _ (by simp))
  | false =>
    rw [hu] at h hs
    simp only [Bool.false_eq_true, if_false] at h hs ⊢
    exact ⟨(hs _ (by simp)).trans h.1, h.2⟩
theorem Ent.at_.lt {w : World} {e : Ent} (h : e.at_ w) : ∀ x ∈ e.fp, x < w.heap.size := by
  unfold Ent.at_ Ent.fp at *
  intro x hx
  cases hu : e.u with
  | true =>
    rw [hu] at h hx
    simp only [if_true] at h hx
    rcases List.mem_cons.1 hx with rfl | hx
    · exact h.lt.1
    · rw [List.mem_singleton.1 hx]; exact h.lt.2
  | false =>
    rw [hu] at h hx
    simp only [Bool.false_eq_true, if_false] at h hx
    rw [List.mem_singleton.1 hx]
    exact (Array.getElem?_eq_some_iff.1 h.1).1
theorem Ent.at_.cst {w : World} {e : Ent} (h : e.at_ w) : Cst w e.b e.yb e.yo e.z := by
  unfold Ent.at_ at h
  cases hu : e.u with
  | true => rw [hu] at h; exact .inl h
  | false => rw [hu] at h; exact .inr h
/-- what stands -/
structure Stt (w0 w : World) (sb mb rb : Nat) (v : Value) (es : List Ent) (L : List (ByteArray × Int)) : Prop where
  hB : RowKit.Below w0.heap.size w0 w
  set : w.cell? ⟨sb, 0, none⟩ = some (.map (some mb))
  map : w.heap[mb]? = some (.map (mkL (es.map Ent.nb) 0).toArray es.length)
  rcell : w.cell? ⟨rb, 0, none⟩ = some v
  rfro : w.frozen? ⟨rb, 0, none⟩ = false
  row : w.ownsRow w0.heap.size 52 2 v L.length (flatG L)
  ents : ∀ e ∈ es, e.at_ w
  nd : (es.flatMap Ent.fp).Nodup
  base : ∀ x ∈ es.flatMap Ent.fp, w0.heap.size ≤ x
  sm : sb ≠ mb
  sr : sb ≠ rb
  mr : mb ≠ rb
  s0 : w0.heap.size ≤ sb
  m0 : w0.heap.size ≤ mb
  r0 : w0.heap.size ≤ rb
  fs : sb ∉ es.flatMap Ent.fp
  fm : mb ∉ es.flatMap Ent.fp
  fr : rb ∉ es.flatMap Ent.fp
  ow : ∀ g, v.ownBlock = some g → g ≠ sb ∧ g ≠ mb ∧ g ≠ rb ∧ g ∉ es.flatMap Ent.fp
theorem Stt.lts {w0 w : World} {sb mb rb : Nat} {v : Value} {es : List Ent} {L : List (ByteArray × Int)} (h : Stt w0 w sb mb rb v es L) :
    sb < w.heap.size ∧ mb < w.heap.size ∧ rb < w.heap.size ∧ (∀ g, v.ownBlock = some g → g < w.heap.size) ∧ ∀ x ∈ es.flatMap Ent.fp, x < w.heap.size := by
  refine ⟨by have := World.block_lt_of_cell? w ⟨sb, 0, none⟩ h.set; simpa using this, (Array.getElem?_eq_some_iff.1 h.map).1, by have := World.block_lt_of_cell? w ⟨rb, 0, none⟩ h.rcell; simpa using this, fun g hg => (h.row.lt g hg).2, fun x hx => ?_⟩
  obtain ⟨e, he, hxe⟩ := List.mem_flatMap.1 hx
  exact (h.ents e he).lt x hxe
/-- nothing of it is turned -/
theorem Stt.grow {w0 w w' : World} {sb mb rb : Nat} {v : Value} {es : List Ent} {L : List (ByteArray × Int)} (h : Stt w0 w sb mb rb v es L) (k : RowKit.Below w.heap.size w w') : Stt w0 w' sb mb rb v es L := by
  obtain ⟨l1, l2, l3, l4, l5⟩ := h.lts
  exact { h with
    hB := h.hB.trans (k.mono h.hB.size)
    set := (k.cell (p := ⟨sb, 0, none⟩) l1).trans h.set
    map := (k.block mb l2).trans h.map
    rcell := (k.cell (p := ⟨rb, 0, none⟩) l3).trans h.rcell
    rfro := (k.frozen (p := ⟨rb, 0, none⟩) l3).trans h.rfro
    row := own_same h.row fun g hg => k.block g (l4 g hg)
    ents := fun e he => (h.ents e he).same fun x hx => k.block x (l5 x (List.mem_flatMap.2 ⟨e, he, hx⟩)) }
theorem flat_snoc (es : List Ent) (e : Ent) : (es ++ [e]).flatMap Ent.fp = es.flatMap Ent.fp ++ e.fp := by simp
/-- a counter is made -/
theorem Stt.add {w0 w W : World} {sb mb rb : Nat} {v : Value} {es : List Ent} {L : List (ByteArray × Int)} (h : Stt w0 w sb mb rb v es L) (hW : RowKit.Below w.heap.size w W) (s : ByteArray) :
    Stt w0 (setBlock (W.alloc freshC) mb (.map (mkL (es.map Ent.nb ++ [(s, W.heap.size)]) 0).toArray ((es.map Ent.nb).length + 1))) sb mb rb v (es ++ [⟨s, W.heap.size, 0, 0, 0, false⟩]) L := by
  have h' := h.grow hW
  obtain ⟨l1, l2, l3, l4, l5⟩ := h'.lts
  have hk : ∀ k, k < W.heap.size → k ≠ mb → (setBlock (W.alloc freshC) mb (.map (mkL (es.map Ent.nb ++ [(s, W.heap.size)]) 0).toArray ((es.map Ent.nb).length + 1))).heap[k]? = W.heap[k]? := fun k hk hne => by
    simp only [setBlock, Array.getElem?_setIfInBounds, if_neg (show ¬ mb = k from fun e => hne e.symm)]
    exact Below.heap_alloc _ _ _ hk
  have hc : ∀ a : Addr, a.block < W.heap.size → a.block ≠ mb → (setBlock (W.alloc freshC) mb (.map (mkL (es.map Ent.nb ++ [(s, W.heap.size)]) 0).toArray ((es.map Ent.nb).length + 1))).cell? a = W.cell? a := fun a h1 h2 => World.cell?_of_block (hk a.block h1 h2)
  have hf : ∀ a : Addr, a.block < W.heap.size → a.block ≠ mb → (setBlock (W.alloc freshC) mb (.map (mkL (es.map Ent.nb ++ [(s, W.heap.size)]) 0).toArray ((es.map Ent.nb).length + 1))).frozen? a = W.frozen? a := fun a h1 h2 => World.frozen?_of_block (hk a.block h1 h2)
  have hw0 : w0.heap.size ≤ W.heap.size := h'.hB.size
  have hnew : ∀ x, x < W.heap.size → x ∉ ([W.heap.size] : List Nat) := fun x hx h1 => by
    have := List.mem_singleton.1 h1; omega
  exact {
    hB := ⟨h'.hB.os, h'.hB.tape, h'.hB.output, by simp [setBlock]; omega, fun k hk2 => (hk k (by omega) (by have := h.m0; omega)).trans (h'.hB.block k hk2)⟩
    set := (hc ⟨sb, 0, none⟩ l1 h.sm).trans h'.set
    map := by
      rw [List.map_append]
      simp [setBlock, Ent.nb, show mb < W.heap.size + 1 by omega]
    rcell := (hc ⟨rb, 0, none⟩ l3 h.mr.symm).trans h'.rcell
    rfro := (hf ⟨rb, 0, none⟩ l3 h.mr.symm).trans h'.rfro
    row := own_same h'.row fun g hg => hk g (l4 g hg) (h.ow g hg).2.1
    ents := fun e he => by
      rcases List.mem_append.1 he with he | he
      · exact (h'.ents e he).same fun x hx => hk x (l5 x (List.mem_flatMap.2 ⟨e, he, hx⟩)) (fun e1 => h.fm (by rw [← e1]; exact List.mem_flatMap.2 ⟨e, he, hx⟩))
      · rw [List.mem_singleton.1 he]
        refine ⟨?_, rfl⟩
        show (setBlock (W.alloc freshC) mb _).heap[W.heap.size]? = _
        simp only [setBlock, Array.getElem?_setIfInBounds, if_neg (show ¬ mb = W.heap.size by omega)]
        show (W.heap.push _)[W.heap.size]? = _
        rw [Array.getElem?_push_size]
    nd := by
      rw [flat_snoc, List.nodup_append]
      refine ⟨h.nd, by simp [Ent.fp], fun a ha b hb e => ?_⟩
      have h1 := l5 a ha
      have h2 : b = W.heap.size := by simpa [Ent.fp] using hb
      omega
    base := fun x hx => by
      rw [flat_snoc] at hx
      rcases List.mem_append.1 hx with hx | hx
      · exact h.base x hx
      · have : x = W.heap.size := by simpa [Ent.fp] using hx
        omega
    sm := h.sm
    sr := h.sr
    mr := h.mr
    s0 := h.s0
    m0 := h.m0
    r0 := h.r0
    fs := by rw [flat_snoc]; exact fun hx => (List.mem_append.1 hx).elim h.fs (hnew sb l1)
    fm := by rw [flat_snoc]; exact fun hx => (List.mem_append.1 hx).elim h.fm (hnew mb l2)
    fr := by rw [flat_snoc]; exact fun hx => (List.mem_append.1 hx).elim h.fr (hnew rb l3)
    ow := fun g hg => ⟨(h.ow g hg).1, (h.ow g hg).2.1, (h.ow g hg).2.2.1, by rw [flat_snoc]; exact fun hx => (List.mem_append.1 hx).elim (h.ow g hg).2.2.2 (hnew g (l4 g hg))⟩ }
/-- the document's row is laid anew -/
theorem Stt.lay {w0 w W : World} {sb mb rb : Nat} {v v' : Value} {es : List Ent} {L L' : List (ByteArray × Int)} (h : Stt w0 w sb mb rb v es L) (hW : RowKit.Below w.heap.size w W) (hrow : W.ownsRow w.heap.size 52 2 v' L'.length (flatG L')) (_hr : W.cell? ⟨rb, 0, none⟩ = some v) :
    Stt w0 (W.setCell ⟨rb, 0, none⟩ v') sb mb rb v' es L' := by
  have h' := h.grow hW
  obtain ⟨l1, l2, l3, l4, l5⟩ := h'.lts
  obtain ⟨k1, k2, k3, k4, k5⟩ := h.lts
  have hk : ∀ k, k ≠ rb → (W.setCell ⟨rb, 0, none⟩ v').heap[k]? = W.heap[k]? := fun k hne => Below.heap_setCell W ⟨rb, 0, none⟩ v' k hne
  have hg' : ∀ g, v'.ownBlock = some g → w.heap.size ≤ g := fun g hg => (hrow.lt g hg).1
  exact { h' with
    hB := ⟨h'.hB.os, h'.hB.tape, h'.hB.output, by simpa [World.setCell] using h'.hB.size, fun k hk2 => (hk k (by have := h.r0; omega)).trans (h'.hB.block k hk2)⟩
    set := (World.cell?_of_block (a := ⟨sb, 0, none⟩) (hk sb h.sr)).trans h'.set
    map := (hk mb h.mr).trans h'.map
    rcell := World.cell?_setCell_same _ _ _ h'.rcell
    rfro := by rw [World.frozen?_setCell]; exact h'.rfro
    row := own_same (own_mono hrow h.hB.size) fun g hg => hk g (by have := hg' g hg; omega)
    ents := fun e he => (h'.ents e he).same fun x hx => hk x (fun e1 => h.fr (by rw [← e1]; exact List.mem_flatMap.2 ⟨e, he, hx⟩))
    ow := fun g hg => by
      have := hg' g hg
      exact ⟨by omega, by omega, by omega, fun hx => by have := k5 g hx; omega⟩ }
theorem flatG_set : ∀ (L : List (ByteArray × Int)) (k : Nat) (s : ByteArray) (z z' : Int), L[k]? = some (s, z) → (flatG L).set (k * 2 + 1) (.int .i64 z') = flatG (L.set k (s, z'))
  | [], k, s, z, z', h => by simp at h
  | x :: L, 0, s, z, z', h => by
    simp at h
    subst h
    rfl
  | x :: L, k + 1, s, z, z', h => by
    have := flatG_set L k s z z' (by simpa using h)
    rw [show (k + 1) * 2 + 1 = (k * 2 + 1) + 1 + 1 by omega]
    simp only [flatG, List.set_cons_succ, this]
/-- a value of the document's row is set -/
theorem Stt.val {w0 w : World} {sb mb rb g cap : Nat} {es : List Ent} {L : List (ByteArray × Int)} {k : Nat} {s : ByteArray} {z : Int} (h : Stt w0 w sb mb rb (.slice (some ⟨g, 0, none⟩) L.length cap) es L) (hk : L[k]? = some (s, z)) (z' : Int) :
    Stt w0 (w.setCell ⟨g, k * 2 + 1, none⟩ (.int .i64 z')) sb mb rb (.slice (some ⟨g, 0, none⟩) L.length cap) es (L.set k (s, z')) := by
  obtain ⟨k1, k2, k3, k4, k5⟩ := h.lts
  obtain ⟨o1, o2, o3, o4⟩ := h.ow g rfl
  have hkl : k < L.length := (List.getElem?_eq_some_iff.1 hk).1
  have hb : ∀ j, j ≠ g → (w.setCell ⟨g, k * 2 + 1, none⟩ (.int .i64 z')).heap[j]? = w.heap[j]? := fun j hne => Below.heap_setCell w ⟨g, k * 2 + 1, none⟩ _ j hne
  have hg0 : w0.heap.size ≤ g := (h.row.lt g rfl).1
  have hst := h.row.stored (k * 2 + 1) (.int .i64 z')
  rw [flatG_set L k s z z' hk] at hst
  exact { h with
    hB := ⟨h.hB.os, h.hB.tape, h.hB.output, by simpa [World.setCell] using h.hB.size, fun j hj => (hb j (by omega)).trans (h.hB.block j hj)⟩
    set := (World.cell?_of_block (a := ⟨sb, 0, none⟩) (hb sb o1.symm)).trans h.set
    map := (hb mb o2.symm).trans h.map
    rcell := (World.cell?_of_block (a := ⟨rb, 0, none⟩) (hb rb o3.symm)).trans h.rcell
    rfro := (World.frozen?_of_block (a := ⟨rb, 0, none⟩) (hb rb o3.symm)).trans h.rfro
    row := by rw [List.length_set]; exact hst.1
    ents := fun e he => (h.ents e he).same fun x hx => hb x (fun e1 => o4 (by rw [← e1]; exact List.mem_flatMap.2 ⟨e, he, hx⟩)) }
theorem nodup_flat {es : List Ent} (h : (es.flatMap Ent.fp).Nodup) : ∀ (i j : Nat) (e e' : Ent) (x : Nat), es[i]? = some e → es[j]? = some e' → x ∈ e.fp → x ∈ e'.fp → i = j := by
  induction es with
  | nil => intro i j e e' x hi; simp at hi
  | cons a es ih =>
    rw [List.flatMap_cons, List.nodup_append] at h
    obtain ⟨_, h2, h3⟩ := h
    intro i j e e' x hi hj hx hx'
    match i, j with
    | 0, 0 => rfl
    | 0, j + 1 =>
      simp at hi
      subst hi
      exact absurd rfl (h3 x hx x (List.mem_flatMap.2 ⟨e', List.mem_of_getElem? (by simpa using hj), hx'⟩))
    | i + 1, 0 =>
      simp at hj
      subst hj
      exact absurd rfl (h3 x hx' x (List.mem_flatMap.2 ⟨e, List.mem_of_getElem? (by simpa using hi), hx⟩))
    | i + 1, j + 1 => rw [ih h2 i j e e' x (by simpa using hi) (by simpa using hj) hx hx']
theorem flat_set : ∀ (es : List Ent) (q : Nat) (e e' : Ent), es[q]? = some e → (es.set q e').flatMap Ent.fp = (es.take q).flatMap Ent.fp ++ e'.fp ++ (es.drop (q + 1)).flatMap Ent.fp
  | [], _, _, _, h => by simp at h
  | a :: es, 0, e, e', _ => by simp
  | a :: es, q + 1, e, e', h => by
    have := flat_set es q e e' (by simpa using h)
    simp only [List.set_cons_succ, List.flatMap_cons, List.take_succ_cons, List.drop_succ_cons, this, List.append_assoc]
theorem set_self {α : Type} : ∀ {l : List α} {i : Nat} {a : α}, l[i]? = some a → l.set i a = l
  | [], _, _, h => by simp at h
  | x :: l, 0, a, h => by simp at h; simp [h]
  | x :: l, i + 1, a, h => by simp only [List.set_cons_succ, set_self (l := l) (i := i) (a := a) (by simpa using h)]
theorem flat_at (es : List Ent) (q : Nat) (e : Ent) (h : es[q]? = some e) : es.flatMap Ent.fp = (es.take q).flatMap Ent.fp ++ e.fp ++ (es.drop (q + 1)).flatMap Ent.fp := by
  have := flat_set es q e e h
  rwa [set_self h] at this
theorem map_nb_set (es : List Ent) (q : Nat) (e e' : Ent) (h : es[q]? = some e) (hn : e'.nb = e.nb) : (es.set q e').map Ent.nb = es.map Ent.nb := by
  rw [List.map_set, hn]
  exact set_self (by rw [List.getElem?_map, h]; rfl)
/-- a counter counts -/
theorem Stt.cnt {w0 w w' : World} {sb mb rb : Nat} {v : Value} {es : List Ent} {L : List (ByteArray × Int)} {q : Nat} {e : Ent} (h : Stt w0 w sb mb rb v es L) (hq : es[q]? = some e) {yb' yo' : Nat} {z' : Int} (hu : Used w' e.b yb' yo' z') (ha : At1 w e.b e.yb e.yo yb' yo' e.z) (ht : Turned w w' e.b yb') :
    Stt w0 w' sb mb rb v (es.set q { e with yb := yb', yo := yo', z := z', u := true }) L := by
  obtain ⟨l1, l2, l3, l4, l5⟩ := h.lts
  have hem : e ∈ es := List.mem_of_getElem? hq
  have hbm : e.b ∈ es.flatMap Ent.fp := List.mem_flatMap.2 ⟨e, hem, by unfold Ent.fp; split <;> simp⟩
  -- where it counts: the place it had, or a new one
  have hy : (e.u = true ∧ yb' = e.yb) ∨ w.heap.size ≤ yb' := by
    rcases ha with ⟨hu0, h1, _⟩ | h1
    · cases hc : e.u with
      | true => exact .inl ⟨rfl, h1⟩
      | false =>
        have := h.ents e hem
        unfold Ent.at_ at this
        rw [hc] at this
        simp only [Bool.false_eq_true, if_false] at this
        have c0 := hu0.c0
        rw [World.cell?_of_block (w := w) (w' := w) (a := ⟨e.b, 0, none⟩) rfl] at c0
        have hcc : w.cell? ⟨e.b, 0, none⟩ = some (.int .u32 0) := by
          unfold World.cell?
          simp [this.1, freshC]
        rw [hcc] at c0
        cases c0
    · exact .inr h1
  have hyin : e.u = true ∧ yb' = e.yb → yb' ∈ es.flatMap Ent.fp := fun ⟨h1, h2⟩ => List.mem_flatMap.2 ⟨e, hem, by unfold Ent.fp; rw [h1, h2]; simp⟩
  have hyn : ∀ x, x < w.heap.size → x ∉ es.flatMap Ent.fp → x ≠ yb' := fun x hx hn e1 => by
    rcases hy with h1 | h1
    · exact hn (e1 ▸ hyin h1)
    · omega
  have hk : ∀ x, x < w.heap.size → x ∉ es.flatMap Ent.fp → w'.heap[x]? = w.heap[x]? := fun x hx hn => ht.block x hx (fun e1 => hn (e1 ▸ hbm)) (hyn x hx hn)
  have hfl := flat_set es q e { e with yb := yb', yo := yo', z := z', u := true } hq
  have hfa := flat_at es q e hq
  have hnew : ∀ x, x ∈ (es.set q { e with yb := yb', yo := yo', z := z', u := true }).flatMap Ent.fp → x ∈ es.flatMap Ent.fp ∨ w.heap.size ≤ x := fun x hx => by
    rw [hfl] at hx
    rcases List.mem_append.1 hx with hx | hx
    · rcases List.mem_append.1 hx with hx | hx
      · exact .inl (by rw [hfa]; simp [hx])
      · have : x = e.b ∨ x = yb' := by simpa [Ent.fp] using hx
        rcases this with rfl | rfl
        · exact .inl hbm
        · rcases hy with h1 | h1
          · exact .inl (hyin h1)
          · exact .inr h1
    · exact .inl (by rw [hfa]; simp [hx])
  have hout : ∀ x, x < w.heap.size → x ∉ es.flatMap Ent.fp → x ∉ (es.set q { e with yb := yb', yo := yo', z := z', u := true }).flatMap Ent.fp := fun x hx hn hin => by
    rcases hnew x hin with h1 | h1
    · exact hn h1
    · omega
  have hw0 := h.hB.size
  exact {
    hB := ⟨ht.os.trans h.hB.os, ht.tape.trans h.hB.tape, ht.output.trans h.hB.output, Nat.le_trans h.hB.size ht.size, fun k hk2 => (hk k (by omega) (fun hin => by have := h.base k hin; omega)).trans (h.hB.block k hk2)⟩
    set := (World.cell?_of_block (a := ⟨sb, 0, none⟩) (hk sb l1 h.fs)).trans h.set
    map := by rw [map_nb_set es q e { e with yb := yb', yo := yo', z := z', u := true } hq rfl, List.length_set]; exact (hk mb l2 h.fm).trans h.map
    rcell := (World.cell?_of_block (a := ⟨rb, 0, none⟩) (hk rb l3 h.fr)).trans h.rcell
    rfro := (World.frozen?_of_block (a := ⟨rb, 0, none⟩) (hk rb l3 h.fr)).trans h.rfro
    row := own_same h.row fun g hg => hk g (l4 g hg) (h.ow g hg).2.2.2
    ents := fun e2 he2 => by
      obtain ⟨j, hj⟩ := List.getElem?_of_mem he2
      rw [List.getElem?_set] at hj
      split at hj
      · split at hj
        · cases hj; exact hu
        · cases hj
      · rename_i hne
        refine (h.ents e2 (List.mem_of_getElem? hj)).same fun x hx => ?_
        have hxl := l5 x (List.mem_flatMap.2 ⟨e2, List.mem_of_getElem? hj, hx⟩)
        refine ht.block x hxl (fun e1 => hne ?_) (fun e1 => ?_)
        · exact nodup_flat h.nd q j e e2 x hq hj (by rw [e1]; unfold Ent.fp; split <;> simp) hx
        · rcases hy with ⟨h1, h2⟩ | h1
          · exact hne (nodup_flat h.nd q j e e2 x hq hj (by rw [e1, h2]; unfold Ent.fp; rw [h1]; simp) hx)
          · omega
    nd := by
      have hnd := h.nd
      rw [hfa] at hnd
      rw [hfl]
      rcases hy with ⟨h1, h2⟩ | h1
      · have : e.fp = Ent.fp { e with yb := yb', yo := yo', z := z', u := true } := by unfold Ent.fp; rw [h1, h2]
        rw [← this]; exact hnd
      · have hF : ∀ x ∈ (es.take q).flatMap Ent.fp ++ e.fp ++ (es.drop (q + 1)).flatMap Ent.fp, x < w.heap.size := by rw [← hfa]; exact l5
        have hb0 : e.b ∈ e.fp := by unfold Ent.fp; split <;> simp
        have hneb : e.b ≠ yb' := hu.ne
        rw [List.nodup_append, List.nodup_append] at hnd ⊢
        obtain ⟨⟨n1, n2, n3⟩, n4, n5⟩ := hnd
        refine ⟨⟨n1, by simp [Ent.fp, hneb], fun a ha1 b hb => ?_⟩, n4, fun a ha1 b hb => ?_⟩
        · have : b = e.b ∨ b = yb' := by simpa [Ent.fp] using hb
          rcases this with rfl | rfl
          · exact n3 a ha1 _ hb0
          · have := hF a (List.mem_append_left _ (List.mem_append_left _ ha1)); omega
        · rcases List.mem_append.1 ha1 with ha1 | ha1
          · exact n5 a (List.mem_append_left _ ha1) b hb
          · have : a = e.b ∨ a = yb' := by simpa [Ent.fp] using ha1
            rcases this with rfl | rfl
            · exact n5 _ (List.mem_append_right _ hb0) b hb
            · have := hF b (List.mem_append_right _ hb); omega
    base := fun x hx => by
      rcases hnew x hx with h1 | h1
      · exact h.base x h1
      · omega
    sm := h.sm
    sr := h.sr
    mr := h.mr
    s0 := h.s0
    m0 := h.m0
    r0 := h.r0
    fs := hout sb l1 h.fs
    fm := hout mb l2 h.fm
    fr := hout rb l3 h.fr
    ow := fun g hg => ⟨(h.ow g hg).1, (h.ow g hg).2.1, (h.ow g hg).2.2.1, hout g (l4 g hg) (h.ow g hg).2.2.2⟩ }
end Go.Proofs.Ytkbbpjknakajeaa
