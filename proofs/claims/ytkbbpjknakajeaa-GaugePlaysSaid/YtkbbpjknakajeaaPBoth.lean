/- A counter asked for, of both: they answer alike, and what stands goes on standing. -/
import Derived.Test.YtkbbpjknakajeaaPAll
import Derived.Test.YtkbbpjknakajeaaPAt
namespace Go.Proofs.Ytkbbpjknakajeaa
open Go Go.AE Go.RowKit
open Go.ChangeMaps (setBlock)
theorem fnd_none {s : ByteArray} : ∀ {l : List (ByteArray × Nat)} {i : Nat}, fnd s l i = none → ∀ e ∈ l, e.1 ≠ s
  | [], _, _, e, he => by cases he
  | x :: l, i, h, e, he => by
    simp only [fnd] at h
    split at h
    · cases h
    · rename_i hne
      rcases List.mem_cons.1 he with rfl | he
      · exact fun e1 => hne (by rw [e1])
      · exact fnd_none h e he
/-- what stands between two acts -/
structure Rest (w0 w : World) (sb mb rb : Nat) (v : Value) (es : List Ent) (L : List (ByteArray × Int)) : Prop where
  st : Stt w0 w sb mb rb v es L
  used : ∀ e ∈ es, e.u = true
  perm : L.Perm (es.map Ent.nz)
  srt : Srt L
  len : L.length ≤ 64
  nm : ∀ x ∈ L, IsNm x.1
theorem Rest.names {w0 w : World} {sb mb rb : Nat} {v : Value} {es : List Ent} {L : List (ByteArray × Int)} (h : Rest w0 w sb mb rb v es L) (s : ByteArray) : (∃ x ∈ L, x.1 = s) ↔ ∃ e ∈ es, e.n = s := by
  constructor
  · rintro ⟨x, hx, rfl⟩
    obtain ⟨e, he, rfl⟩ := List.mem_map.1 (h.perm.mem_iff.1 hx)
    exact ⟨e, he, rfl⟩
  · rintro ⟨e, he, rfl⟩
    exact ⟨e.nz, h.perm.mem_iff.2 (List.mem_map.2 ⟨e, he, rfl⟩), rfl⟩
theorem Rest.length {w0 w : World} {sb mb rb : Nat} {v : Value} {es : List Ent} {L : List (ByteArray × Int)} (h : Rest w0 w sb mb rb v es L) : L.length = es.length := by rw [h.perm.length_eq]; simp
theorem Rest.grow {w0 w w' : World} {sb mb rb : Nat} {v : Value} {es : List Ent} {L : List (ByteArray × Int)} (h : Rest w0 w sb mb rb v es L) (k : RowKit.Below w.heap.size w w') : Rest w0 w' sb mb rb v es L := { h with st := h.st.grow k }
theorem asked_form {w w' : World} {mb : Nat} {l : List (ByteArray × Nat)} {s : ByteArray} {x : Ending} (h : Asked w mb l s x w') : ∃ q err, x = .returned (.tuple #[q, .int .i64 err]) := by
  cases h with
  | there _ _ hx _ => exact ⟨_, _, hx⟩
  | form _ _ hx _ => exact ⟨_, _, hx⟩
  | many _ _ _ hx _ => exact ⟨_, _, hx⟩
  | new _ _ _ _ hx _ => exact ⟨_, _, hx⟩
theorem asked_stt {w0 w w' : World} {sb mb rb : Nat} {v : Value} {es : List Ent} {L : List (ByteArray × Int)} {s : ByteArray} {x : Ending} (h : Stt w0 w sb mb rb v es L) (a : Asked w mb (es.map Ent.nb) s x w') : ∃ es2, Stt w0 w' sb mb rb v es2 L := by
  cases a with
  | there _ _ _ hw => subst hw; exact ⟨es, h⟩
  | form _ _ _ hw => exact ⟨es, h.grow hw⟩
  | many _ _ _ _ hw => exact ⟨es, h.grow hw⟩
  | new _ _ _ hW _ hw => subst hw; exact ⟨_, h.add hW s⟩
theorem asked_frame {w w' : World} {mb : Nat} {l : List (ByteArray × Nat)} {s : ByteArray} {x : Ending} (a : Asked w mb l s x w') : w.heap.size ≤ w'.heap.size ∧ ∀ A, A < w.heap.size → A ≠ mb → w'.heap[A]? = w.heap[A]? := by
  cases a with
  | there _ _ _ hw => subst hw; exact ⟨Nat.le_refl _, fun _ _ _ => rfl⟩
  | form _ _ _ hw => exact ⟨hw.size, fun A hA _ => hw.block A hA⟩
  | many _ _ _ _ hw => exact ⟨hw.size, fun A hA _ => hw.block A hA⟩
  | new _ _ _ hW _ hw =>
    subst hw
    refine ⟨by have := hW.size; simp [setBlock]; omega, fun A hA hne => ?_⟩
    simp only [setBlock, Array.getElem?_setIfInBounds, if_neg (show ¬ mb = A from fun e => hne e.symm)]
    rw [Below.heap_alloc _ _ _ (Nat.lt_of_lt_of_le hA hW.size)]
    exact hW.block A hA
/-- what is known once a counter is there, of both -/
structure Pair (w0 w w1 : World) (sb mb rb A : Nat) (s : ByteArray) (q : Value) (k j : Nat) (e : Ent) (g cap : Nat) (es : List Ent) (L : List (ByteArray × Int)) : Prop where
  st : Stt w0 w sb mb rb (.slice (some ⟨g, 0, none⟩) L.length cap) es L
  hk : L[k]? = some (s, e.z)
  hj : es[j]? = some e
  en : e.n = s
  hq : q = .pointer (some ⟨e.b, 0, none⟩)
  used : ∀ i x, i ≠ j → es[i]? = some x → x.u = true
  perm : L.Perm (es.map Ent.nz)
  srt : Srt L
  len : L.length ≤ 64
  nm : ∀ x ∈ L, IsNm x.1
  hA : w.heap[A]? = w1.heap[A]?
  gA : g ≠ A
  fA : A ∉ es.flatMap Ent.fp
  szA : A < w.heap.size
theorem own_blk {w : World} {B n : Nat} {v : Value} {xs : List Value} (h : w.ownsRow B 52 2 v n xs) (hn : 0 < n) : ∃ g cap, v = .slice (some ⟨g, 0, none⟩) n cap := by
  obtain ⟨g, cap, hv, _⟩ := h.form hn
  exact ⟨g, cap, hv⟩
theorem both {w0 w1 w2 w3 : World} {sb mb rb A : Nat} {v : Value} {es : List Ent} {L : List (ByteArray × Int)} {s : ByteArray} {q : Value} {err : Int} {y : Ending} (h : Rest w0 w1 sb mb rb v es L)
    (a : Asked w1 mb (es.map Ent.nb) s (.returned (.tuple #[q, .int .i64 err])) w2) (t : AtRes w2 rb L s y w3) (hA : A < w1.heap.size) (hA1 : A ≠ mb) (hA2 : A ≠ rb) (hA3 : ∀ g, v.ownBlock = some g → g ≠ A) (hA4 : A ∉ es.flatMap Ent.fp) :
    ((err = 8 ∨ err = 12) ∧ y = .returned (.tuple #[.int .i64 0, .int .i64 err]) ∧ Rest w0 w3 sb mb rb v es L) ∨
    (err = 0 ∧ ∃ k j e g cap es2 L2, y = .returned (.tuple #[.int .i64 (k : Nat), .int .i64 0]) ∧ Pair w0 w3 w1 sb mb rb A s q k j e g cap es2 L2) := by
  obtain ⟨fr1, fr2⟩ := asked_frame a
  have hlen := h.length
  cases a with
  | there hq he hx hw =>
    subst hw
    rw [List.getElem?_map] at hq
    obtain ⟨e0, hq0, rfl⟩ := Option.map_eq_some_iff.1 hq
    have he : e0.n = s := he
    simp only [Ending.returned.injEq, Value.tuple.injEq, Array.mk.injEq, List.cons.injEq, and_true, Value.int.injEq, true_and] at hx
    obtain ⟨rfl, rfl⟩ := hx
    obtain ⟨x0, hx0, hxs⟩ := (h.names s).2 ⟨e0, List.mem_of_getElem? hq0, he⟩
    cases t with
    | form hs _ _ => exact absurd (hxs ▸ h.nm x0 hx0) hs
    | many _ hAh hne _ _ _ _ => exact absurd hxs (h.srt.not_in hAh hne x0 hx0)
    | new _ hAh hne _ _ _ _ => exact absurd hxs (h.srt.not_in hAh hne x0 hx0)
    | there hs9 hk hy hw =>
      subst hw
      rename_i k z
      obtain ⟨g, cap, rfl⟩ := own_blk h.st.row (by have := (List.getElem?_eq_some_iff.1 hk).1; omega)
      have hz : z = e0.z := by
        have h1 : (e0.n, e0.z) ∈ L := h.perm.mem_iff.2 (List.mem_map.2 ⟨e0, List.mem_of_getElem? hq0, rfl⟩)
        have h2 := h.srt.uniq _ h1 _ (List.mem_of_getElem? hk) he
        exact (congrArg Prod.snd h2).symm
      exact .inr ⟨rfl, k, _, e0, g, cap, es, L, hy, ⟨h.st, by rw [hk, hz], hq0, he, rfl, fun i x _ hx => h.used x (List.mem_of_getElem? hx), h.perm, h.srt, h.len, h.nm, rfl, hA3 g rfl, hA4, hA⟩⟩
  | form hn hs hx hw =>
    simp only [Ending.returned.injEq, Value.tuple.injEq, Array.mk.injEq, List.cons.injEq, and_true, Value.int.injEq, true_and] at hx
    obtain ⟨rfl, rfl⟩ := hx
    cases t with
    | form _ hy hw' => subst hw'; exact .inl ⟨.inl rfl, hy, h.grow hw⟩
    | many hs' _ _ _ _ _ _ => exact absurd hs' hs
    | new hs' _ _ _ _ _ _ => exact absurd hs' hs
    | there hs' _ _ _ => exact absurd hs' hs
  | many hn hs h64 hx hw =>
    simp only [Ending.returned.injEq, Value.tuple.injEq, Array.mk.injEq, List.cons.injEq, and_true, Value.int.injEq, true_and] at hx
    obtain ⟨rfl, rfl⟩ := hx
    have hno : ∀ e ∈ es, e.n ≠ s := fun e he => fnd_none hn e.nb (List.mem_map.2 ⟨e, he, rfl⟩)
    cases t with
    | form hs' _ _ => exact absurd hs hs'
    | many _ _ _ _ _ hy hw' => subst hw'; exact .inl ⟨.inr rfl, hy, h.grow hw⟩
    | new _ _ _ _ h64' _ _ => simp at h64; omega
    | there _ hk _ _ =>
      obtain ⟨e, he, hes⟩ := (h.names s).1 ⟨_, List.mem_of_getElem? hk, rfl⟩
      exact absurd hes (hno e he)
  | new hn hs h64 hW hx hw =>
    rename_i W
    simp only [Ending.returned.injEq, Value.tuple.injEq, Array.mk.injEq, List.cons.injEq, and_true, Value.int.injEq, true_and] at hx
    obtain ⟨rfl, rfl⟩ := hx
    have hno : ∀ e ∈ es, e.n ≠ s := fun e he => fnd_none hn e.nb (List.mem_map.2 ⟨e, he, rfl⟩)
    cases t with
    | form hs' _ _ => exact absurd hs hs'
    | many _ _ _ _ h64' _ _ => simp at h64; omega
    | there _ hk _ _ =>
      obtain ⟨e, he, hes⟩ := (h.names s).1 ⟨_, List.mem_of_getElem? hk, rfl⟩
      exact absurd hes (hno e he)
    | new hs9 hAh hne hk h64' hy hw' =>
      rename_i k
      obtain ⟨W2, v2, hB2, hrow, rfl⟩ := hw'
      have hst2 : Stt w0 w2 sb mb rb v (es ++ [⟨s, W.heap.size, 0, 0, 0, false⟩]) L := by rw [hw]; exact h.st.add hW s
      have hL2 : (L.take k ++ (s, 0) :: L.drop k).length = L.length + 1 := by simp; omega
      rw [← hL2] at hrow
      have hst3 := hst2.lay (v' := v2) (L' := L.take k ++ (s, 0) :: L.drop k) hB2 hrow ((hB2.cell (p := ⟨rb, 0, none⟩) (by have := hst2.lts.2.2.1; simpa using this)).trans hst2.rcell)
      obtain ⟨g, cap, rfl⟩ := own_blk hrow (by omega)
      have hgw : w2.heap.size ≤ g := (hrow.lt g rfl).1
      have hkk : (L.take k ++ (s, 0) :: L.drop k)[k]? = some (s, 0) := by
        rw [List.getElem?_append_right (by simp; omega)]
        simp [show min k L.length = k by omega]
      refine .inr ⟨rfl, k, es.length, ⟨s, W.heap.size, 0, 0, 0, false⟩, g, cap, es ++ [⟨s, W.heap.size, 0, 0, 0, false⟩], L.take k ++ (s, 0) :: L.drop k, hy, ⟨hst3, hkk, by simp, rfl, rfl, fun i x hi hx => ?_, ?_, h.srt.ins hAh hne 0, by rw [hL2]; omega, fun x hx => ?_, ?_, by omega, ?_, ?_⟩⟩
      · rw [List.getElem?_append] at hx
        split at hx
        · exact h.used x (List.mem_of_getElem? hx)
        · have := (List.getElem?_eq_some_iff.1 hx).1
          simp at this
          omega
      · rw [List.map_append]
        refine List.Perm.trans (List.perm_middle) ?_
        rw [List.take_append_drop]
        refine List.Perm.trans (h.perm.cons _) ?_
        exact (List.perm_append_comm (l₁ := [(s, (0 : Int))])).trans (List.Perm.refl _)
      · rcases List.mem_append.1 hx with hx | hx
        · exact h.nm x (List.mem_of_mem_take hx)
        · rcases List.mem_cons.1 hx with rfl | hx
          · exact hs
          · exact h.nm x (List.mem_of_mem_drop hx)
      · rw [Below.heap_setCell _ _ _ _ hA2, hB2.block A (by omega), fr2 A hA hA1]
      · rw [flat_snoc]
        intro hx
        rcases List.mem_append.1 hx with hx | hx
        · exact hA4 hx
        · have h1 : A = W.heap.size := by simpa [Ent.fp] using hx
          have := hW.size
          omega
      · have := hB2.size
        simp [World.setCell]; omega
end Go.Proofs.Ytkbbpjknakajeaa
