/- All rows of counts, one behind the other: each is followed by the next; how many there are. Plain Lean. -/
import Derived.Test.YtiapphhldedckaaNextPlain3
namespace Go.Proofs.Ytiapphhldedckaa.Ex
open Go.Sort
def dec (c : List Nat) (i : Nat) : List Nat := c.set i (c.getD i 0 - 1)
def rows : Nat → List Nat → List (List Int)
  | 0, _ => [[]]
  | s + 1, c => (List.range' 0 c.length).flatMap fun i => if 0 < c.getD i 0 then (rows s (dec c i)).map ((i : Int) :: ·) else []
def firstRow (c : List Nat) : List Int := (List.range' 0 c.length).flatMap fun i => List.replicate (c.getD i 0) (i : Int)
/-- how often x stands in a row of counts c -/
def mult (c : List Nat) (x : Int) : Nat := if 0 ≤ x then c.getD x.toNat 0 else 0
theorem mult_nat (c : List Nat) (i : Nat) : mult c (i : Int) = c.getD i 0 := by simp [mult]
theorem dec_length (c : List Nat) (i : Nat) : (dec c i).length = c.length := by simp [dec]
theorem dec_get (c : List Nat) (i j : Nat) : (dec c i).getD j 0 = if i = j then c.getD i 0 - 1 else c.getD j 0 := by
  unfold dec
  simp only [List.getD, List.getElem?_set]
  by_cases h : i = j
  · subst h
    simp only [if_true]
    by_cases h2 : i < c.length
    · simp [h2]
    · simp [h2]
  · simp [h]
theorem getD_zero {c : List Nat} {i : Nat} (h : c.length ≤ i) : c.getD i 0 = 0 := by simp [List.getD, List.getElem?_eq_none h]
theorem mult_dec (c : List Nat) (i : Nat) (h : 0 < c.getD i 0) (x : Int) : (if (i : Int) = x then 1 else 0) + mult (dec c i) x = mult c x := by
  unfold mult
  by_cases hx : 0 ≤ x
  · rw [if_pos hx, if_pos hx, dec_get]
    by_cases h2 : i = x.toNat
    · have : (i : Int) = x := by omega
      rw [if_pos h2, if_pos this, ← h2]; omega
    · have : ¬ (i : Int) = x := by omega
      rw [if_neg h2, if_neg this]; omega
  · rw [if_neg hx, if_neg hx, if_neg (by omega)]
theorem sum_dec (c : List Nat) (i : Nat) (h : 0 < c.getD i 0) : (dec c i).sum + 1 = c.sum := by
  induction c generalizing i with
  | nil => simp at h
  | cons a c ih =>
    cases i with
    | zero => simp [dec] at h ⊢; omega
    | succ i =>
      have := ih i (by simpa using h)
      simp [dec] at this ⊢
      omega
theorem count_flat (f : Nat → List Int) (x : Int) : ∀ n a, ((List.range' a n).flatMap f).count x = ((List.range' a n).map fun i => (f i).count x).sum := by
  intro n
  induction n with
  | zero => intro a; simp
  | succ n ih => intro a; simp only [List.range'_succ, List.flatMap_cons, List.map_cons, List.sum_cons, List.count_append]; rw [ih]
theorem sum_single (g : Nat → Nat) (i : Nat) : ∀ n a, (∀ j, j ≠ i → g j = 0) → ((List.range' a n).map g).sum = if a ≤ i ∧ i < a + n then g i else 0 := by
  intro n
  induction n with
  | zero => intro a _; rw [if_neg (by omega)]; rfl
  | succ n ih =>
    intro a h
    simp only [List.range'_succ, List.map_cons, List.sum_cons]
    rw [ih (a + 1) h]
    by_cases h1 : a = i
    · subst h1; rw [if_neg (by omega), if_pos (by omega)]; omega
    · rw [h a h1]
      by_cases h2 : a + 1 ≤ i ∧ i < a + 1 + n
      · rw [if_pos h2, if_pos (by omega)]; omega
      · rw [if_neg h2, if_neg (by omega)]
theorem count_first (c : List Nat) (x : Int) : (firstRow c).count x = mult c x := by
  unfold firstRow mult
  rw [count_flat]
  by_cases hx : 0 ≤ x
  · rw [if_pos hx, sum_single _ x.toNat]
    · by_cases h : 0 ≤ x.toNat ∧ x.toNat < 0 + c.length
      · rw [if_pos h, List.count_replicate, if_pos (by simp; omega)]
      · rw [if_neg h, getD_zero (by omega)]
    · intro j hj
      rw [List.count_replicate, if_neg (by simp; omega)]
  · rw [if_neg hx, sum_single _ 0]
    · rw [List.count_replicate, if_neg (show ¬ (((0 : Nat) : Int) == x) = true by rw [beq_iff_eq]; omega)]; simp
    · intro j hj
      rw [List.count_replicate, if_neg (show ¬ ((j : Int) == x) = true by rw [beq_iff_eq]; omega)]
theorem count_row : ∀ s c r, c.sum = s → r ∈ rows s c → ∀ x, r.count x = mult c x := by
  intro s
  induction s with
  | zero =>
    intro c r hs hr x
    simp only [rows, List.mem_singleton] at hr
    subst hr
    rw [← count_first]
    have hz : ∀ i, c.getD i 0 = 0 := by
      intro i
      have h0 : c.getD i 0 ≤ c.sum := by
        clear hs
        induction c generalizing i with
        | nil => simp
        | cons a c ih =>
          cases i with
          | zero => simp
          | succ i => have := ih i; simp at this ⊢; omega
      omega
    have : firstRow c = [] := by
      unfold firstRow
      rw [List.flatMap_eq_nil_iff]
      intro i _
      rw [hz i]; rfl
    rw [this]
  | succ s ih =>
    intro c r hs hr x
    simp only [rows, List.mem_flatMap] at hr
    obtain ⟨i, _, hr⟩ := hr
    split at hr
    · rename_i h
      obtain ⟨r', hr', rfl⟩ := List.mem_map.1 hr
      have := ih (dec c i) r' (by have := sum_dec c i h; omega) hr' x
      rw [List.count_cons, this, ← mult_dec c i h x]
      simp only [beq_iff_eq]
      omega
    · cases hr
theorem perm_of_counts {l r : List Int} {c : List Nat} (hl : ∀ x, l.count x = mult c x) (hr : ∀ x, r.count x = mult c x) : l.Perm r :=
  List.perm_iff_count.2 fun x => (hl x).trans (hr x).symm
theorem mem_of_count {l : List Int} {c : List Nat} (hl : ∀ x, l.count x = mult c x) (x : Int) : x ∈ l ↔ 0 < mult c x := by
  rw [← hl x]; exact List.count_pos_iff.symm
/-! ### what follows what -/
def NxL (r r' : List Int) : Prop := NextRel r.toArray r'.toArray
def FallsL (r : List Int) : Prop := Falls r.toArray 0
theorem arr_get (l : List Int) (t : Nat) : l.toArray[t]! = l.getD t 0 := by
  by_cases h : t < l.length
  · rw [getElem!_pos _ t (by simpa using h)]; simp [List.getD, h]
  · rw [getElem!_neg _ t (by simpa using h)]; simp [List.getD, List.getElem?_eq_none (Nat.le_of_not_lt h)]
theorem perm_in_all {d r : List Int} (h : d.Perm r) : PermIn 0 d.toArray.size d.toArray r.toArray := by
  have hl := h.length_eq
  refine ⟨by simp [hl], fun i hi => ?_, ?_⟩
  · rcases hi with hi | hi
    · omega
    · rw [arr_get, arr_get]
      simp only [List.size_toArray] at hi
      simp [List.getD, List.getElem?_eq_none hi, List.getElem?_eq_none (hl ▸ hi)]
  · simp only [List.size_toArray]
    have e1 : (r.toArray.extract 0 d.length).toList = r := by simp [hl]
    have e2 : (d.toArray.extract 0 d.length).toList = d := by simp
    rw [e1, e2]
    exact h.symm
theorem next_cons {d r : List Int} (x : Int) (h : NxL d r) : NxL (x :: d) (x :: r) := by
  obtain ⟨k, h⟩ := h
  have hg : ∀ (l : List Int) (t : Nat), (x :: l).toArray[t + 1]! = l.toArray[t]! := fun l t => by rw [arr_get, arr_get]; rfl
  have hs := h.perm.1
  simp only [List.size_toArray] at hs
  refine ⟨k + 1, ?_, ?_, ?_, ?_, ?_, ?_, ?_⟩
  · have := h.lt; simp at this ⊢; omega
  · intro t h1 h2
    obtain ⟨t, rfl⟩ : ∃ u, t = u + 1 := ⟨t - 1, by omega⟩
    rw [hg, hg]
    exact h.falls t (by omega) (by simp at h2 ⊢; omega)
  · rw [hg, hg]; exact h.up
  · refine ⟨by simp [hs], fun i hi => ?_, ?_⟩
    · cases i with
      | zero => rw [arr_get, arr_get]; rfl
      | succ i => rw [hg, hg]; exact h.perm.2.1 i (by simp at hi ⊢; omega)
    · have := h.perm.2.2
      simp only [List.size_toArray, List.length_cons, Array.toList_extract, List.extract_eq_take_drop, List.drop_succ_cons] at this ⊢
      rwa [show d.length + 1 - (k + 1) = d.length - k from by omega]
  · rw [hg, hg]; exact h.more
  · intro t h1 h2 h3
    obtain ⟨t, rfl⟩ : ∃ u, t = u + 1 := ⟨t - 1, by omega⟩
    rw [hg, hg] at h3
    rw [hg, hg]
    exact h.least t (by omega) (by simp at h2 ⊢; omega) h3
  · intro t h1 h2
    obtain ⟨t, rfl⟩ : ∃ u, t = u + 1 := ⟨t - 1, by omega⟩
    rw [hg, hg]
    exact h.rises t (by omega) (by simp at h2 ⊢; omega)
theorem next_edge {a j : Int} {u v : List Int} (hp : (a :: u).Perm (j :: v)) (haj : a < j) (hj : j ∈ u) (hl : ∀ x ∈ u, a < x → j ≤ x) (hf : FallsL u) (hr : Rises v.toArray 0) : NxL (a :: u) (j :: v) := by
  have hg : ∀ (x : Int) (l : List Int) (t : Nat), (x :: l).toArray[t + 1]! = l.toArray[t]! := fun x l t => by rw [arr_get, arr_get]; rfl
  have h0 : ∀ (x : Int) (l : List Int), (x :: l).toArray[0]! = x := fun x l => by rw [arr_get]; rfl
  have hul : 0 < u.length := List.length_pos_of_mem hj
  have hlen := hp.length_eq
  simp only [List.length_cons] at hlen
  refine ⟨0, ?_, ?_, ?_, perm_in_all hp, ?_, ?_, ?_⟩
  · simp; omega
  · intro t h1 h2
    obtain ⟨t, rfl⟩ : ∃ u, t = u + 1 := ⟨t - 1, by omega⟩
    rw [hg, hg]
    exact hf t (by omega) (by simp at h2 ⊢; omega)
  · rw [h0, hg]
    obtain ⟨t, ht, e⟩ := List.getElem_of_mem hj
    have := falls_le hf t 0 (by omega) (by simpa using ht)
    rw [Nat.zero_add, arr_get u t] at this
    rw [List.getD, List.getElem?_eq_getElem ht, e] at this
    simp only [Option.getD_some] at this
    omega
  · rw [h0, h0]; exact haj
  · intro t h1 h2 h3
    obtain ⟨t, rfl⟩ : ∃ u, t = u + 1 := ⟨t - 1, by omega⟩
    rw [h0, hg] at h3
    rw [h0, hg]
    have ht : t < u.length := by simp at h2; omega
    have e : u.toArray[t]! = u[t] := by rw [arr_get, List.getD, List.getElem?_eq_getElem ht]; rfl
    rw [e] at h3 ⊢
    exact hl _ (List.getElem_mem ht) h3
  · intro t h1 h2
    obtain ⟨t, rfl⟩ : ∃ u, t = u + 1 := ⟨t - 1, by omega⟩
    rw [hg, hg]
    exact hr t (by omega) (by simp at h2 ⊢; omega)
end Go.Proofs.Ytiapphhldedckaa.Ex
