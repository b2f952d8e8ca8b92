/- The document's set of gauges: a name's place, a new name laid in. -/
import Derived.Test.YtkbbpjknakajeaaPStt
import Derived.Test.YtkbbpjknakajeaaPApp
namespace Go.Proofs.Ytkbbpjknakajeaa
open Go Go.AE Go.RowKit
theorem info52' : (Try.prog.info? 52).map (fun i => (i.zero, i.size, i.bytes)) = some (some (.agg #[.string ⟨#[]⟩, .int .i64 0]), 2, 24) := by kernel_rfl
theorem flatG_app : ∀ l m, flatG (l ++ m) = flatG l ++ flatG m
  | [], _ => rfl
  | x :: l, m => by simp only [flatG, List.cons_append, flatG_app l m]
theorem flatG_name : ∀ (l : List (ByteArray × Int)) (k : Nat) (x : ByteArray × Int), l[k]? = some x → (flatG l)[k * 2]? = some (.string x.1) ∧ (flatG l)[k * 2 + 1]? = some (.int .i64 x.2)
  | [], k, x, h => by simp at h
  | y :: l, 0, x, h => by simp at h; subst h; exact ⟨rfl, rfl⟩
  | y :: l, k + 1, x, h => by
    have := flatG_name l k x (by simpa using h)
    rw [show (k + 1) * 2 = k * 2 + 1 + 1 by omega]
    exact this
theorem flatG_take : ∀ (l : List (ByteArray × Int)) (k : Nat), (flatG l).take (k * 2) = flatG (l.take k)
  | [], k => by simp [flatG]
  | x :: l, 0 => by simp [flatG]
  | x :: l, k + 1 => by
    rw [show (k + 1) * 2 = k * 2 + 1 + 1 by omega]
    simp only [flatG, List.take_succ_cons, flatG_take l k]
theorem flatG_drop : ∀ (l : List (ByteArray × Int)) (k : Nat), (flatG l).drop (k * 2) = flatG (l.drop k)
  | [], k => by simp [flatG]
  | x :: l, 0 => by simp [flatG]
  | x :: l, k + 1 => by
    rw [show (k + 1) * 2 = k * 2 + 1 + 1 by omega]
    simp only [flatG, List.drop_succ_cons, flatG_drop l k]
theorem flatG_one : ∀ (l : List (ByteArray × Int)), ∀ u ∈ flatG l, u.oneCell' = true
  | [], u, h => by cases h
  | x :: l, u, h => by
    simp only [flatG, List.mem_cons] at h
    rcases h with rfl | rfl | h
    · rfl
    · rfl
    · exact flatG_one l u h
theorem lessB_out (a b : ByteArray) : Op.bytesLess a.toList b.toList = lessB a b := rfl
inductive AtRes (w : World) (rb : Nat) (L : List (ByteArray × Int)) (s : ByteArray) (x : Ending) (w' : World) : Prop where
  | form (hs : ¬ IsNm s) (hx : x = .returned (.tuple #[.int .i64 0, .int .i64 8])) (hw : w' = w)
  | there {k : Nat} {z : Int} (hs : IsNm s) (hk : L[k]? = some (s, z)) (hx : x = .returned (.tuple #[.int .i64 k, .int .i64 0])) (hw : w' = w)
  | many {k : Nat} (hs : IsNm s) (hA : Ahead L s k) (hne : ∀ y, L[k]? = some y → y.1 ≠ s ∧ lessB y.1 s = false) (hk : k ≤ L.length) (h64 : 64 ≤ L.length) (hx : x = .returned (.tuple #[.int .i64 0, .int .i64 12])) (hw : w' = w)
  | new {k : Nat} (hs : IsNm s) (hA : Ahead L s k) (hne : ∀ y, L[k]? = some y → y.1 ≠ s ∧ lessB y.1 s = false) (hk : k ≤ L.length) (h64 : L.length < 64) (hx : x = .returned (.tuple #[.int .i64 k, .int .i64 0]))
      (hw : ∃ W v, RowKit.Below w.heap.size w W ∧ W.ownsRow w.heap.size 52 2 v (L.length + 1) (flatG (L.take k ++ (s, 0) :: L.drop k)) ∧ w' = W.setCell ⟨rb, 0, none⟩ v)
theorem cells_of {w : World} {g cap : Nat} {L : List (ByteArray × Int)} {B : Nat} (h : w.ownsRow B 52 2 (.slice (some ⟨g, 0, none⟩) L.length cap) L.length (flatG L)) {k : Nat} {x : ByteArray × Int} (hk : L[k]? = some x) :
    w.cell? ⟨g, k * 2, none⟩ = some (.string x.1) ∧ w.cell? ⟨g, k * 2 + 1, none⟩ = some (.int .i64 x.2) := by
  obtain ⟨h1, h2⟩ := flatG_name L k x hk
  have hlt : k < L.length := (List.getElem?_eq_some_iff.1 hk).1
  have a1 := h.cellAt (k * 2) (by omega)
  have a2 := h.cellAt (k * 2 + 1) (by omega)
  rw [h1] at a1
  rw [h2] at a2
  exact ⟨by simpa using a1, by simpa using a2⟩
theorem own_new (w : World) {base g : Nat} (h : base ≤ w.heap.size) (hg : w.heap.size = g) : (w.alloc (.cells #[] 52)).ownsRow base 52 2 (.slice (some ⟨g, 0, none⟩) 0 0) 0 [] := by
  subst hg
  refine ⟨rfl, .inr ⟨w.heap.size, 0, #[], rfl, h, ?_, Nat.le_refl _, by decide, rfl, rfl⟩⟩
  show (w.heap.push _)[w.heap.size]? = _
  rw [Array.getElem?_push_size]
theorem two_new (w : World) {g : Nat} (hg : w.heap.size = g) (s : ByteArray) (z : Int) : ∀ j u, [Value.string s, Value.int .i64 z][j]? = some u → (w.alloc (.cells #[.string s, .int .i64 z] 52)).cell? ((⟨g, 0, none⟩ : Addr).add j) = some u := by
  subst hg
  intro j u hj
  match j, hj with
  | 0, hj => simp at hj; subst hj; simp [Addr.add]
  | 1, hj => simp at hj; subst hj; simp [Addr.add]
theorem news_grown {w w' : World} {row : Option Nat} {ad : Addr} {l : List Value} (hg : w.grownBy w' row) (hr : some ad.block ≠ row) (h : ∀ j u, l[j]? = some u → w.cell? (ad.add j) = some u) : ∀ j u, l[j]? = some u → w'.cell? (ad.add j) = some u := fun j u hj => hg.cell (h j u hj) (by unfold Addr.add; split <;> exact hr)
theorem news_alloc {w : World} {ad : Addr} {l : List Value} (o : Obj) (h : ∀ j u, l[j]? = some u → w.cell? (ad.add j) = some u) : ∀ j u, l[j]? = some u → (w.alloc o).cell? (ad.add j) = some u := fun j u hj => by
  have := h j u hj
  rw [World.cell?_alloc_some _ _ _ (by rw [this]; rfl)]
  exact this
/-- the cells of a row that stood are what they were -/
theorem news_old {w0 w : World} {g k : Nat} {L : List (ByteArray × Int)} {B cap : Nat} (h : w0.ownsRow B 52 2 (.slice (some ⟨g, 0, none⟩) L.length cap) L.length (flatG L)) (hb : RowKit.Below w0.heap.size w0 w) (l : List Value) (hl : ∀ j u, l[j]? = some u → (flatG L)[k + j]? = some u) :
    ∀ j u, l[j]? = some u → w.cell? ((⟨g, k, none⟩ : Addr).add j) = some u := fun j u hj => by
  have h1 := hl j u hj
  have h2 : k + j < (flatG L).length := (List.getElem?_eq_some_iff.1 h1).1
  rw [flatG_len] at h2
  have h3 := h.cellAt (k + j) h2
  have h4 : w0.cell? ⟨g, k + j, none⟩ = some u := by rw [h3, h1]
  have h5 := World.block_lt_of_cell? w0 ⟨g, k + j, none⟩ h4
  have h6 := hb.cell (p := ⟨g, k + j, none⟩) (by simpa using h5)
  have h7 := h6.trans h4
  unfold Addr.add
  split
  · rename_i h0
    have h0 : j = 0 := by simpa using h0
    rw [h0, Nat.add_zero] at h7
    exact h7
  · exact h7
theorem fin_own0 {w : World} {base : Nat} {v : Value} {L : List (ByteArray × Int)} {s : ByteArray} (h : w.ownsRow base 52 2 v (0 + L.length + 1 + 0) ([] ++ flatG (L.take L.length) ++ [.string s, .int .i64 0] ++ [])) : w.ownsRow base 52 2 v (L.length + 1) (flatG (L.take L.length ++ (s, 0) :: L.drop L.length)) := by
  rw [flatG_app]
  simpa [flatG] using h
theorem fin_own {w : World} {base : Nat} {v : Value} {L : List (ByteArray × Int)} {s : ByteArray} {k : Nat} (hk : k ≤ L.length) (h : w.ownsRow base 52 2 v (0 + k + 1 + (L.length - k)) ([] ++ flatG (L.take k) ++ [.string s, .int .i64 0] ++ flatG (L.drop k))) : w.ownsRow base 52 2 v (L.length + 1) (flatG (L.take k ++ (s, 0) :: L.drop k)) := by
  rw [flatG_app]
  rw [show 0 + k + 1 + (L.length - k) = L.length + 1 by omega] at h
  simpa [flatG] using h
theorem ht_of {w : World} {B : Nat} {ao : Option Addr} {cap : Nat} {L : List (ByteArray × Int)} (hown : w.ownsRow B 52 2 (.slice ao L.length cap) L.length (flatG L)) {k : Nat} (hk : k ≤ L.length) (hL : L.length ≤ 64) :
    (flatG (L.take k)).length = k * 2 ∧ (ao = none → k = 0) ∧ (∀ W : World, RowKit.Below w.heap.size w W → ∀ ad, ao = some ad → ∀ j u, (flatG (L.take k))[j]? = some u → W.cell? (ad.add j) = some u) ∧ 0 + k ≤ maxLen ∧ (0 + k) * 24 ≤ 140737488355328 := by
  refine ⟨by rw [flatG_len]; simp; omega, fun h => ?_, fun W hb ad h => ?_, Nat.le_trans (by omega : 0 + k ≤ 100) (by decide), by omega⟩
  · rcases hown.2 with ⟨_, h0⟩ | ⟨g, c, cur, hv, _⟩
    · omega
    · rw [h] at hv; cases hv
  · rcases hown.2 with ⟨hv, h0⟩ | ⟨g, c, cur, hv, _⟩
    · rw [h] at hv; cases hv
    · rw [h] at hv
      cases hv
      subst h
      refine news_old (k := 0) hown hb _ fun j u hj => ?_
      rw [← flatG_take] at hj
      rw [List.getElem?_take] at hj
      split at hj
      · simpa using hj
      · cases hj
end Go.Proofs.Ytkbbpjknakajeaa
