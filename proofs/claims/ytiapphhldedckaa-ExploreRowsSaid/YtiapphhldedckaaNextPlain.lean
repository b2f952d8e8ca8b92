/- What it is to be the row that follows a row; there is one at most. Plain Lean. -/
import Derived.Sort.Lot0
namespace Go.Proofs.Ytiapphhldedckaa
open Go.Sort
/-- from place a on the row falls -/
def Falls (d : Array Int) (a : Nat) : Prop := ∀ t, a ≤ t → t + 1 < d.size → d[t + 1]! ≤ d[t]!
def Rises (d : Array Int) (a : Nat) : Prop := ∀ t, a ≤ t → t + 1 < d.size → d[t]! ≤ d[t + 1]!
structure NextAt (d r : Array Int) (i : Nat) : Prop where
  lt : i + 1 < d.size
  falls : Falls d (i + 1)
  up : d[i]! < d[i + 1]!
  perm : PermIn i d.size d r
  more : d[i]! < r[i]!
  least : ∀ t, i < t → t < d.size → d[i]! < d[t]! → r[i]! ≤ d[t]!
  rises : Rises r (i + 1)
def NextRel (d r : Array Int) : Prop := ∃ i, NextAt d r i
theorem falls_le {d : Array Int} {a : Nat} (h : Falls d a) : ∀ n t, a ≤ t → t + n < d.size → d[t + n]! ≤ d[t]! := by
  intro n
  induction n with
  | zero => intro t _ _; exact Int.le_refl _
  | succ n ih => intro t h1 h2; exact Int.le_trans (h (t + n) (by omega) (by omega)) (ih t h1 (by omega))
theorem rises_le {d : Array Int} {a : Nat} (h : Rises d a) : ∀ n t, a ≤ t → t + n < d.size → d[t]! ≤ d[t + n]! := by
  intro n
  induction n with
  | zero => intro t _ _; exact Int.le_refl _
  | succ n ih => intro t h1 h2; exact Int.le_trans (ih t h1 (by omega)) (h (t + n) (by omega) (by omega))
theorem NextAt.idx {d r r' : Array Int} {i j : Nat} (h : NextAt d r i) (h' : NextAt d r' j) : i = j := by
  rcases Nat.lt_trichotomy i j with hlt | rfl | hlt
  · have := h.falls j (by omega) (by have := h'.lt; omega)
    have := h'.up
    omega
  · rfl
  · have := h'.falls i (by omega) (by have := h.lt; omega)
    have := h.up
    omega
theorem mem_extract {d : Array Int} {a b : Nat} (hb : b ≤ d.size) {x : Int} : x ∈ (d.extract a b).toList ↔ ∃ t, a ≤ t ∧ t < b ∧ d[t]! = x := by
  rw [extract_toList d a b hb, List.mem_map]
  constructor
  · rintro ⟨t, ht, e⟩
    have := List.mem_range'_1.1 ht
    exact ⟨t, this.1, by omega, e⟩
  · rintro ⟨t, h1, h2, e⟩
    exact ⟨t, List.mem_range'_1.2 ⟨h1, by omega⟩, e⟩
theorem NextAt.from {d r : Array Int} {i : Nat} (h : NextAt d r i) : ∃ t, i < t ∧ t < d.size ∧ d[t]! = r[i]! := by
  have hs : r.size = d.size := h.perm.1
  have hm : r[i]! ∈ (r.extract i d.size).toList := (mem_extract (by omega)).2 ⟨i, Nat.le_refl _, by have := h.lt; omega, rfl⟩
  obtain ⟨t, h1, h2, e⟩ := (mem_extract (Nat.le_refl _)).1 (h.perm.2.2.mem_iff.1 hm)
  refine ⟨t, ?_, h2, e⟩
  rcases Nat.lt_or_ge i t with h3 | h3
  · exact h3
  · obtain rfl : t = i := by omega
    have := h.more
    omega
theorem extract_cons {d : Array Int} {a b : Nat} (h : a < b) (hb : b ≤ d.size) : (d.extract a b).toList = d[a]! :: (d.extract (a + 1) b).toList := by
  rw [extract_toList d a b hb, extract_toList d (a + 1) b hb]
  obtain ⟨n, hn⟩ : ∃ n, b - a = n + 1 := ⟨b - a - 1, by omega⟩
  rw [hn, show b - (a + 1) = n from by omega, List.range'_succ, List.map_cons]
theorem pairwise_extract {d : Array Int} {a : Nat} (h : Rises d a) : (d.extract a d.size).toList.Pairwise (· ≤ ·) := by
  rw [extract_toList d a d.size (Nat.le_refl _), List.pairwise_map]
  refine List.Pairwise.imp_of_mem (R := (· < ·)) ?_ (List.pairwise_lt_range' ..)
  intro x y hx hy hxy
  have h1 := List.mem_range'_1.1 hx
  have h2 := List.mem_range'_1.1 hy
  have := rises_le h (y - x) x h1.1 (by omega)
  rwa [show x + (y - x) = y from by omega] at this
theorem NextRel.unique {d r r' : Array Int} (h : NextRel d r) (h' : NextRel d r') : r = r' := by
  obtain ⟨i, h⟩ := h
  obtain ⟨j, h'⟩ := h'
  obtain rfl := h.idx h'
  have hv : r[i]! = r'[i]! := by
    obtain ⟨t, h1, h2, e⟩ := h.from
    obtain ⟨t', h1', h2', e'⟩ := h'.from
    have a := h'.least t h1 h2 (by rw [e]; exact h.more)
    have b := h.least t' h1' h2' (by rw [e']; exact h'.more)
    omega
  have hs : r.size = d.size := h.perm.1
  have hs' : r'.size = d.size := h'.perm.1
  have hl := h.lt
  have hp : (r.extract i d.size).toList.Perm (r'.extract i d.size).toList := h.perm.2.2.trans h'.perm.2.2.symm
  rw [extract_cons (d := r) (a := i) (by omega) (by omega), extract_cons (d := r') (a := i) (by omega) (by omega), hv] at hp
  have hq := (List.perm_cons _).1 hp
  have e1 : (r.extract (i + 1) d.size).toList = (r'.extract (i + 1) d.size).toList := by
    refine List.Perm.eq_of_pairwise (le := (· ≤ ·)) (fun a b _ _ h1 h2 => by omega) ?_ ?_ hq
    · have := pairwise_extract h.rises; rwa [hs] at this
    · have := pairwise_extract h'.rises; rwa [hs'] at this
  apply Array.ext (by omega)
  intro t h1 h2
  rw [← getElem!_pos r t h1, ← getElem!_pos r' t h2]
  rcases Nat.lt_trichotomy t i with ht | rfl | ht
  · rw [h.perm.2.1 t (by omega), h'.perm.2.1 t (by omega)]
  · exact hv
  · rw [extract_toList _ _ _ (by omega), extract_toList _ _ _ (by omega)] at e1
    have := List.map_inj_left.1 e1 t (List.mem_range'_1.2 ⟨ht, by omega⟩)
    exact this
end Go.Proofs.Ytiapphhldedckaa
