/- Rows in order, plainly: the row that follows, all rows, how many. Plain Lean. -/
import Derived.Sort.Lot0
/- What it is to be the row that follows a row; there is one at most. Plain Lean. -/
namespace Go.Proofs.Ytkbbpjknakajeaa
open Go.Sort
/-- from place a on the row falls -/
def Falls (d : Array Int) (a : Nat) : Prop := ∀ t, a ≤ t → t + 1 < d.size → d[t + 1]! ≤ d[t]!
def Rises (d : Array Int) (a : Nat) : Prop := ∀ t, a ≤ t → t + 1 < d.size → d[t]! ≤ d[t + 1]!
structure NextAt (d r : Array Int) (i : Nat) : Prop where
  lt : i + 1 < d.size
  falls : Falls d (i + 1)
  up : d[i]! < d[i + 1]!
  perm : PermIn i d.size d r
  more : d[i]! < r[i]!
  least : ∀ t, i < t → t < d.size → d[i]! < d[t]! → r[i]! ≤ d[t]!
  rises : Rises r (i + 1)
def NextRel (d r : Array Int) : Prop := ∃ i, NextAt d r i
theorem falls_le {d : Array Int} {a : Nat} (h : Falls d a) : ∀ n t, a ≤ t → t + n < d.size → d[t + n]! ≤ d[t]! := by
  intro n
  induction n with
  | zero => intro t _ _; exact Int.le_refl _
  | succ n ih => intro t h1 h2; exact Int.le_trans (h (t + n) (by omega) (by omega)) (ih t h1 (by omega))
theorem rises_le {d : Array Int} {a : Nat} (h : Rises d a) : ∀ n t, a ≤ t → t + n < d.size → d[t]! ≤ d[t + n]! := by
  intro n
  induction n with
  | zero => intro t _ _; exact Int.le_refl _
  | succ n ih => intro t h1 h2; exact Int.le_trans (ih t h1 (by omega)) (h (t + n) (by omega) (by omega))
theorem NextAt.idx {d r r' : Array Int} {i j : Nat} (h : NextAt d r i) (h' : NextAt d r' j) : i = j := by
  rcases Nat.lt_trichotomy i j with hlt | rfl | hlt
  · have := h.falls j (by omega) (by have := h'.lt; omega)
    have := h'.up
    omega
  · rfl
  · have := h'.falls i (by omega) (by have := h.lt; omega)
    have := h.up
    omega
theorem mem_extract {d : Array Int} {a b : Nat} (hb : b ≤ d.size) {x : Int} : x ∈ (d.extract a b).toList ↔ ∃ t, a ≤ t ∧ t < b ∧ d[t]! = x := by
  rw [extract_toList d a b hb, List.mem_map]
  constructor
  · rintro ⟨t, ht, e⟩
    have := List.mem_range'_1.1 ht
    exact ⟨t, this.1, by omega, e⟩
  · rintro ⟨t, h1, h2, e⟩
    exact ⟨t, List.mem_range'_1.2 ⟨h1, by omega⟩, e⟩
theorem NextAt.from {d r : Array Int} {i : Nat} (h : NextAt d r i) : ∃ t, i < t ∧ t < d.size ∧ d[t]! = r[i]! := by
  have hs : r.size = d.size := h.perm.1
  have hm : r[i]! ∈ (r.extract i d.size).toList := (mem_extract (by omega)).2 ⟨i, Nat.le_refl _, by have := h.lt; omega, rfl⟩
  obtain ⟨t, h1, h2, e⟩ := (mem_extract (Nat.le_refl _)).1 (h.perm.2.2.mem_iff.1 hm)
  refine ⟨t, ?_, h2, e⟩
  rcases Nat.lt_or_ge i t with h3 | h3
  · exact h3
  · obtain rfl : t = i := by omega
    have := h.more
    omega
theorem extract_cons {d : Array Int} {a b : Nat} (h : a < b) (hb : b ≤ d.size) : (d.extract a b).toList = d[a]! :: (d.extract (a + 1) b).toList := by
  rw [extract_toList d a b hb, extract_toList d (a + 1) b hb]
  obtain ⟨n, hn⟩ : ∃ n, b - a = n + 1 := ⟨b - a - 1, by omega⟩
  rw [hn, show b - (a + 1) = n from by omega, List.range'_succ, List.map_cons]
theorem pairwise_extract {d : Array Int} {a : Nat} (h : Rises d a) : (d.extract a d.size).toList.Pairwise (· ≤ ·) := by
  rw [extract_toList d a d.size (Nat.le_refl _), List.pairwise_map]
  refine List.Pairwise.imp_of_mem (R := (· < ·)) ?_ (List.pairwise_lt_range' ..)
  intro x y hx hy hxy
  have h1 := List.mem_range'_1.1 hx
  have h2 := List.mem_range'_1.1 hy
  have := rises_le h (y - x) x h1.1 (by omega)
  rwa [show x + (y - x) = y from by omega] at this
theorem NextRel.unique {d r r' : Array Int} (h : NextRel d r) (h' : NextRel d r') : r = r' := by
  obtain ⟨i, h⟩ := h
  obtain ⟨j, h'⟩ := h'
  obtain rfl := h.idx h'
  have hv : r[i]! = r'[i]! := by
    obtain ⟨t, h1, h2, e⟩ := h.from
    obtain ⟨t', h1', h2', e'⟩ := h'.from
    have a := h'.least t h1 h2 (by rw [e]; exact h.more)
    have b := h.least t' h1' h2' (by rw [e']; exact h'.more)
    omega
  have hs : r.size = d.size := h.perm.1
  have hs' : r'.size = d.size := h'.perm.1
  have hl := h.lt
  have hp : (r.extract i d.size).toList.Perm (r'.extract i d.size).toList := h.perm.2.2.trans h'.perm.2.2.symm
  rw [extract_cons (d := r) (a := i) (by omega) (by omega), extract_cons (d := r') (a := i) (by omega) (by omega), hv] at hp
  have hq := (List.perm_cons _).1 hp
  have e1 : (r.extract (i + 1) d.size).toList = (r'.extract (i + 1) d.size).toList := by
    refine List.Perm.eq_of_pairwise (le := (· ≤ ·)) (fun a b _ _ h1 h2 => by omega) ?_ ?_ hq
    · have := pairwise_extract h.rises; rwa [hs] at this
    · have := pairwise_extract h'.rises; rwa [hs'] at this
  apply Array.ext (by omega)
  intro t h1 h2
  rw [← getElem!_pos r t h1, ← getElem!_pos r' t h2]
  rcases Nat.lt_trichotomy t i with ht | rfl | ht
  · rw [h.perm.2.1 t (by omega), h'.perm.2.1 t (by omega)]
  · exact hv
  · rw [extract_toList _ _ _ (by omega), extract_toList _ _ _ (by omega)] at e1
    have := List.map_inj_left.1 e1 t (List.mem_range'_1.2 ⟨ht, by omega⟩)
    exact this
end Go.Proofs.Ytkbbpjknakajeaa
/- The row that is made by an exchange and a reversal of the tail is the row that follows. Plain Lean. -/
namespace Go.Proofs.Ytkbbpjknakajeaa
open Go.Sort
def turned (d : Array Int) (i : Nat) : Array Int := d.extract 0 (i + 1) ++ (d.extract (i + 1) d.size).reverse
theorem size_turned (d : Array Int) (i : Nat) (h : i < d.size) : (turned d i).size = d.size := by simp [turned]; omega
theorem turned_low (d : Array Int) (i j : Nat) (h : i < d.size) (hj : j ≤ i) : (turned d i)[j]! = d[j]! := by
  rw [getElem!_pos _ j (by rw [size_turned d i h]; omega), getElem!_pos d j (by omega)]
  unfold turned
  rw [Array.getElem_append_left (by simp; omega)]
  simp
theorem turned_high (d : Array Int) (i j : Nat) (h : i < d.size) (hj : i < j) (hj2 : j < d.size) : (turned d i)[j]! = d[d.size + i - j]! := by
  rw [getElem!_pos _ j (by rw [size_turned d i h]; omega), getElem!_pos d _ (by omega)]
  unfold turned
  rw [Array.getElem_append_right (by simp; omega)]
  simp only [Array.getElem_reverse, Array.getElem_extract, Array.size_extract]
  congr 1
  omega
theorem turned_perm (d : Array Int) (i : Nat) (h : i < d.size) : PermIn i d.size d (turned d i) := by
  refine ⟨size_turned d i h, fun j hj => ?_, ?_⟩
  · rcases hj with hj | hj
    · exact turned_low d i j h (by omega)
    · rw [getElem!_neg _ j (by rw [size_turned d i h]; omega), getElem!_neg d j (by omega)]
  · have hs := size_turned d i h
    rw [extract_cons (d := turned d i) (a := i) h (by omega), extract_cons (d := d) (a := i) h (Nat.le_refl _), turned_low d i i h (Nat.le_refl _)]
    refine List.Perm.cons _ ?_
    have e : ((turned d i).extract (i + 1) d.size).toList = (d.extract (i + 1) d.size).toList.reverse := by
      apply List.ext_getElem
      · simp [hs]
      · intro n h1 h2
        simp only [Array.length_toList, Array.size_extract, hs] at h1
        have h3 := turned_high d i (i + 1 + n) h (by omega) (by omega)
        rw [getElem!_pos _ _ (by omega), getElem!_pos d _ (by omega)] at h3
        simp only [Array.getElem_toList, Array.getElem_extract, List.getElem_reverse, Array.length_toList, Array.size_extract]
        rw [h3]
        congr 1
        omega
    rw [e]
    exact List.reverse_perm _
theorem next_turned {d : Array Int} {i k : Nat} (hik : i < k) (hk : k < d.size) (hf : Falls d (i + 1)) (hup : d[i]! < d[i + 1]!) (hlt : d[i]! < d[k]!) (hall : ∀ t, k < t → t < d.size → d[t]! ≤ d[i]!) : NextAt d (turned (swp d i k) i) i := by
  have hs : (swp d i k).size = d.size := size_swp d i k
  have hl : (swp d i k)[i]! = d[k]! := swp_left d i k (by omega) (by omega)
  have hr : (swp d i k)[k]! = d[i]! := swp_right d i k hk
  have ho : ∀ t, t ≠ i → t ≠ k → (swp d i k)[t]! = d[t]! := fun t h1 h2 => swp_other d i k t h1 h2
  have hfs : Falls (swp d i k) (i + 1) := by
    intro t h1 h2
    rw [hs] at h2
    by_cases e1 : t + 1 = k
    · subst e1
      rw [hr, ho t (by omega) (by omega)]
      have := hf t h1 h2
      omega
    · by_cases e2 : t = k
      · subst e2
        rw [hr, ho (t + 1) (by omega) (by omega)]
        exact hall (t + 1) (by omega) h2
      · rw [ho t (by omega) e2, ho (t + 1) (by omega) e1]
        exact hf t h1 h2
  refine ⟨by omega, hf, hup, ?_, ?_, ?_, ?_⟩
  · have := turned_perm (swp d i k) i (by omega)
    rw [hs] at this
    exact permIn_trans _ _ _ _ _ (swp_permIn d i d.size i k (Nat.le_refl _) (by omega) (by omega) hk (Nat.le_refl _)) this
  · rw [turned_low _ i i (by omega) (Nat.le_refl _), hl]; exact hlt
  · intro t h1 h2 h3
    rw [turned_low _ i i (by omega) (Nat.le_refl _), hl]
    rcases Nat.lt_or_ge k t with h4 | h4
    · have := hall t h4 h2; omega
    · have := falls_le hf (k - t) t (by omega) (by omega)
      rwa [show t + (k - t) = k from by omega] at this
  · intro t h1 h2
    rw [size_turned _ i (by omega), hs] at h2
    rw [turned_high _ i t (by omega) (by omega) (by omega), turned_high _ i (t + 1) (by omega) (by omega) (by omega), hs]
    have := hfs (d.size + i - (t + 1)) (by omega) (by omega)
    rwa [show d.size + i - (t + 1) + 1 = d.size + i - t from by omega] at this
end Go.Proofs.Ytkbbpjknakajeaa
/- Putting a tail in order by exchanges. Plain Lean. -/
namespace Go.Proofs.Ytkbbpjknakajeaa
open Go.Sort
structure Sorting (d1 dk : Array Int) (lo a : Nat) : Prop where
  perm : PermIn lo d1.size d1 dk
  low : ∀ s t, lo ≤ s → s < lo + a → s ≤ t → t < d1.size → dk[s]! ≤ dk[t]!
def Inner (d1 dk : Array Int) (lo a b : Nat) : Prop := ∀ t, lo + a < t → t < lo + b → t < d1.size → dk[lo + a]! ≤ dk[t]!
theorem Sorting.start (d1 : Array Int) (lo : Nat) : Sorting d1 d1 lo 0 := ⟨permIn_refl _ _ _, fun s t h1 h2 => by omega⟩
theorem Inner.start (d1 dk : Array Int) (lo a : Nat) : Inner d1 dk lo a (a + 1) := fun t h1 h2 => by omega
theorem Inner.keep {d1 dk : Array Int} {lo a b : Nat} (h : Inner d1 dk lo a b) (hn : ¬ dk[lo + b]! < dk[lo + a]!) : Inner d1 dk lo a (b + 1) := by
  intro t h1 h2 h3
  rcases Nat.lt_or_ge t (lo + b) with h4 | h4
  · exact h t h1 h4 h3
  · obtain rfl : t = lo + b := by omega
    omega
theorem Sorting.swap {d1 dk : Array Int} {lo a b : Nat} (h : Sorting d1 dk lo a) (hi : Inner d1 dk lo a b) (hab : a < b) (hb : lo + b < d1.size) (hlt : dk[lo + b]! < dk[lo + a]!) :
    Sorting d1 (swp dk (lo + a) (lo + b)) lo a ∧ Inner d1 (swp dk (lo + a) (lo + b)) lo a (b + 1) := by
  have hs : dk.size = d1.size := h.perm.1
  have hl : (swp dk (lo + a) (lo + b))[lo + a]! = dk[lo + b]! := swp_left _ _ _ (by omega) (by omega)
  have hr : (swp dk (lo + a) (lo + b))[lo + b]! = dk[lo + a]! := swp_right _ _ _ (by omega)
  have ho : ∀ t, t ≠ lo + a → t ≠ lo + b → (swp dk (lo + a) (lo + b))[t]! = dk[t]! := fun t h1 h2 => swp_other _ _ _ t h1 h2
  refine ⟨⟨?_, ?_⟩, ?_⟩
  · have := swp_permIn dk lo d1.size (lo + a) (lo + b) (by omega) (by omega) (by omega) hb (by omega)
    exact permIn_trans _ _ _ _ _ h.perm this
  · intro s t h1 h2 h3 h4
    rw [ho s (by omega) (by omega)]
    by_cases e1 : t = lo + a
    · subst e1; rw [hl]; exact h.low s (lo + b) h1 h2 (by omega) hb
    · by_cases e2 : t = lo + b
      · subst e2; rw [hr]; exact h.low s (lo + a) h1 h2 (by omega) (by omega)
      · rw [ho t e1 e2]; exact h.low s t h1 h2 h3 h4
  · intro t h1 h2 h3
    rw [hl]
    by_cases e2 : t = lo + b
    · subst e2; rw [hr]; omega
    · rw [ho t (by omega) e2]
      have := hi t h1 (by omega) h3
      omega
theorem Sorting.step {d1 dk : Array Int} {lo a b : Nat} (h : Sorting d1 dk lo a) (hi : Inner d1 dk lo a b) (hb : d1.size ≤ lo + b) : Sorting d1 dk lo (a + 1) := by
  refine ⟨h.perm, fun s t h1 h2 h3 h4 => ?_⟩
  rcases Nat.lt_or_ge s (lo + a) with h5 | h5
  · exact h.low s t h1 h5 h3 h4
  · obtain rfl : s = lo + a := by omega
    rcases Nat.lt_or_ge (lo + a) t with h6 | h6
    · exact hi t h6 (by omega) h4
    · obtain rfl : t = lo + a := by omega
      exact Int.le_refl _
/-- the least of those that are greater -/
structure Best (d : Array Int) (i k best : Nat) : Prop where
  lt : i < best
  bd : best < k
  more : d[i]! < d[best]!
  least : ∀ t, i < t → t < k → d[i]! < d[t]! → d[best]! ≤ d[t]!
def NoBest (d : Array Int) (i k : Nat) : Prop := ∀ t, i < t → t < k → d[t]! ≤ d[i]!
theorem NoBest.keep {d : Array Int} {i k : Nat} (h : NoBest d i k) (hn : d[k]! ≤ d[i]!) : NoBest d i (k + 1) := by
  intro t h1 h2
  rcases Nat.lt_or_ge t k with h3 | h3
  · exact h t h1 h3
  · obtain rfl : t = k := by omega
    exact hn
theorem NoBest.first {d : Array Int} {i k : Nat} (h : NoBest d i k) (hik : i < k) (hn : d[i]! < d[k]!) : Best d i (k + 1) k := by
  refine ⟨hik, by omega, hn, fun t h1 h2 h3 => ?_⟩
  rcases Nat.lt_or_ge t k with h4 | h4
  · have := h t h1 h4; omega
  · obtain rfl : t = k := by omega
    exact Int.le_refl _
theorem Best.keep {d : Array Int} {i k best : Nat} (h : Best d i k best) (hn : d[i]! < d[k]! → d[best]! ≤ d[k]!) : Best d i (k + 1) best := by
  refine ⟨h.lt, by have := h.bd; omega, h.more, fun t h1 h2 h3 => ?_⟩
  rcases Nat.lt_or_ge t k with h4 | h4
  · exact h.least t h1 h4 h3
  · obtain rfl : t = k := by omega
    exact hn h3
theorem Best.better {d : Array Int} {i k best : Nat} (h : Best d i k best) (h1 : d[i]! < d[k]!) (h2 : d[k]! < d[best]!) : Best d i (k + 1) k := by
  refine ⟨by have := h.lt; have := h.bd; omega, by omega, h1, fun t h3 h4 h5 => ?_⟩
  rcases Nat.lt_or_ge t k with h6 | h6
  · have := h.least t h3 h6 h5; omega
  · obtain rfl : t = k := by omega
    exact Int.le_refl _
theorem next_sorted {d dk : Array Int} {i best a : Nat} (hb : Best d i d.size best) (hf : Falls d (i + 1)) (hup : d[i]! < d[i + 1]!) (hs : Sorting (swp d i best) dk (i + 1) a) (ha : d.size ≤ i + 1 + a) : NextAt d dk i := by
  have h1 := hb.lt
  have h2 := hb.bd
  have hsz : (swp d i best).size = d.size := size_swp d i best
  have hp := hs.perm
  rw [hsz] at hp
  have hl : dk[i]! = d[best]! := by rw [hp.2.1 i (.inl (by omega))]; exact swp_left d i best (by omega) (by omega)
  refine ⟨by omega, hf, hup, ?_, ?_, ?_, ?_⟩
  · have h3 := swp_permIn d i d.size i best (Nat.le_refl _) (by omega) (by omega) h2 (Nat.le_refl _)
    refine permIn_trans _ _ _ _ _ h3 ?_
    refine ⟨hp.1, fun j hj => hp.2.1 j (by omega), ?_⟩
    rw [extract_cons (d := dk) (a := i) (by omega) (by rw [hp.1, hsz]; exact Nat.le_refl _), extract_cons (d := swp d i best) (a := i) (by omega) (by omega), hp.2.1 i (.inl (by omega))]
    exact List.Perm.cons _ hp.2.2
  · rw [hl]; exact hb.more
  · intro t h3 h4 h5; rw [hl]; exact hb.least t h3 h4 h5
  · intro t h3 h4
    rw [hp.1, hsz] at h4
    exact hs.low t (t + 1) h3 (by omega) (by omega) (by omega)
end Go.Proofs.Ytkbbpjknakajeaa
/- All rows of counts, one behind the other: each is followed by the next; how many there are. Plain Lean. -/
namespace Go.Proofs.Ytkbbpjknakajeaa.Ex
open Go.Sort
def dec (c : List Nat) (i : Nat) : List Nat := c.set i (c.getD i 0 - 1)
def rows : Nat → List Nat → List (List Int)
  | 0, _ => [[]]
  | s + 1, c => (List.range' 0 c.length).flatMap fun i => if 0 < c.getD i 0 then (rows s (dec c i)).map ((i : Int) :: ·) else []
def firstRow (c : List Nat) : List Int := (List.range' 0 c.length).flatMap fun i => List.replicate (c.getD i 0) (i : Int)
/-- how often x stands in a row of counts c -/
def mult (c : List Nat) (x : Int) : Nat := if 0 ≤ x then c.getD x.toNat 0 else 0
theorem mult_nat (c : List Nat) (i : Nat) : mult c (i : Int) = c.getD i 0 := by simp [mult]
theorem dec_length (c : List Nat) (i : Nat) : (dec c i).length = c.length := by simp [dec]
theorem dec_get (c : List Nat) (i j : Nat) : (dec c i).getD j 0 = if i = j then c.getD i 0 - 1 else c.getD j 0 := by
  unfold dec
  simp only [List.getD, List.getElem?_set]
  by_cases h : i = j
  · subst h
    simp only [if_true]
    by_cases h2 : i < c.length
    · simp [h2]
    · simp [h2]
  · simp [h]
theorem getD_zero {c : List Nat} {i : Nat} (h : c.length ≤ i) : c.getD i 0 = 0 := by simp [List.getD, List.getElem?_eq_none h]
theorem mult_dec (c : List Nat) (i : Nat) (h : 0 < c.getD i 0) (x : Int) : (if (i : Int) = x then 1 else 0) + mult (dec c i) x = mult c x := by
  unfold mult
  by_cases hx : 0 ≤ x
  · rw [if_pos hx, if_pos hx, dec_get]
    by_cases h2 : i = x.toNat
    · have : (i : Int) = x := by omega
      rw [if_pos h2, if_pos this, ← h2]; omega
    · have : ¬ (i : Int) = x := by omega
      rw [if_neg h2, if_neg this]; omega
  · rw [if_neg hx, if_neg hx, if_neg (by omega)]
theorem sum_dec (c : List Nat) (i : Nat) (h : 0 < c.getD i 0) : (dec c i).sum + 1 = c.sum := by
  induction c generalizing i with
  | nil => simp at h
  | cons a c ih =>
    cases i with
    | zero => simp [dec] at h ⊢; omega
    | succ i =>
      have := ih i (by simpa using h)
      simp [dec] at this ⊢
      omega
theorem count_flat (f : Nat → List Int) (x : Int) : ∀ n a, ((List.range' a n).flatMap f).count x = ((List.range' a n).map fun i => (f i).count x).sum := by
  intro n
  induction n with
  | zero => intro a; simp
  | succ n ih => intro a; simp only [List.range'_succ, List.flatMap_cons, List.map_cons, List.sum_cons, List.count_append]; rw [ih]
theorem sum_single (g : Nat → Nat) (i : Nat) : ∀ n a, (∀ j, j ≠ i → g j = 0) → ((List.range' a n).map g).sum = if a ≤ i ∧ i < a + n then g i else 0 := by
  intro n
  induction n with
  | zero => intro a _; rw [if_neg (by omega)]; rfl
  | succ n ih =>
    intro a h
    simp only [List.range'_succ, List.map_cons, List.sum_cons]
    rw [ih (a + 1) h]
    by_cases h1 : a = i
    · subst h1; rw [if_neg (by omega), if_pos (by omega)]; omega
    · rw [h a h1]
      by_cases h2 : a + 1 ≤ i ∧ i < a + 1 + n
      · rw [if_pos h2, if_pos (by omega)]; omega
      · rw [if_neg h2, if_neg (by omega)]
theorem count_first (c : List Nat) (x : Int) : (firstRow c).count x = mult c x := by
  unfold firstRow mult
  rw [count_flat]
  by_cases hx : 0 ≤ x
  · rw [if_pos hx, sum_single _ x.toNat]
    · by_cases h : 0 ≤ x.toNat ∧ x.toNat < 0 + c.length
      · rw [if_pos h, List.count_replicate, if_pos (by simp; omega)]
      · rw [if_neg h, getD_zero (by omega)]
    · intro j hj
      rw [List.count_replicate, if_neg (by simp; omega)]
  · rw [if_neg hx, sum_single _ 0]
    · rw [List.count_replicate, if_neg (show ¬ (((0 : Nat) : Int) == x) = true by rw [beq_iff_eq]; omega)]; simp
    · intro j hj
      rw [List.count_replicate, if_neg (show ¬ ((j : Int) == x) = true by rw [beq_iff_eq]; omega)]
theorem count_row : ∀ s c r, c.sum = s → r ∈ rows s c → ∀ x, r.count x = mult c x := by
  intro s
  induction s with
  | zero =>
    intro c r hs hr x
    simp only [rows, List.mem_singleton] at hr
    subst hr
    rw [← count_first]
    have hz : ∀ i, c.getD i 0 = 0 := by
      intro i
      have h0 : c.getD i 0 ≤ c.sum := by
        clear hs
        induction c generalizing i with
        | nil => simp
        | cons a c ih =>
          cases i with
          | zero => simp
          | succ i => have := ih i; simp at this ⊢; omega
      omega
    have : firstRow c = [] := by
      unfold firstRow
      rw [List.flatMap_eq_nil_iff]
      intro i _
      rw [hz i]; rfl
    rw [this]
  | succ s ih =>
    intro c r hs hr x
    simp only [rows, List.mem_flatMap] at hr
    obtain ⟨i, _, hr⟩ := hr
    split at hr
    · rename_i h
      obtain ⟨r', hr', rfl⟩ := List.mem_map.1 hr
      have := ih (dec c i) r' (by have := sum_dec c i h; omega) hr' x
      rw [List.count_cons, this, ← mult_dec c i h x]
      simp only [beq_iff_eq]
      omega
    · cases hr
theorem perm_of_counts {l r : List Int} {c : List Nat} (hl : ∀ x, l.count x = mult c x) (hr : ∀ x, r.count x = mult c x) : l.Perm r :=
  List.perm_iff_count.2 fun x => (hl x).trans (hr x).symm
theorem mem_of_count {l : List Int} {c : List Nat} (hl : ∀ x, l.count x = mult c x) (x : Int) : x ∈ l ↔ 0 < mult c x := by
  rw [← hl x]; exact List.count_pos_iff.symm
/-! ### what follows what -/
def NxL (r r' : List Int) : Prop := NextRel r.toArray r'.toArray
def FallsL (r : List Int) : Prop := Falls r.toArray 0
theorem arr_get (l : List Int) (t : Nat) : l.toArray[t]! = l.getD t 0 := by
  by_cases h : t < l.length
  · rw [getElem!_pos _ t (by simpa using h)]; simp [List.getD, h]
  · rw [getElem!_neg _ t (by simpa using h)]; simp [List.getD, List.getElem?_eq_none (Nat.le_of_not_lt h)]
theorem perm_in_all {d r : List Int} (h : d.Perm r) : PermIn 0 d.toArray.size d.toArray r.toArray := by
  have hl := h.length_eq
  refine ⟨by simp [hl], fun i hi => ?_, ?_⟩
  · rcases hi with hi | hi
    · omega
    · rw [arr_get, arr_get]
      simp only [List.size_toArray] at hi
      simp [List.getD, List.getElem?_eq_none hi, List.getElem?_eq_none (hl ▸ hi)]
  · simp only [List.size_toArray]
    have e1 : (r.toArray.extract 0 d.length).toList = r := by simp [hl]
    have e2 : (d.toArray.extract 0 d.length).toList = d := by simp
    rw [e1, e2]
    exact h.symm
theorem next_cons {d r : List Int} (x : Int) (h : NxL d r) : NxL (x :: d) (x :: r) := by
  obtain ⟨k, h⟩ := h
  have hg : ∀ (l : List Int) (t : Nat), (x :: l).toArray[t + 1]! = l.toArray[t]! := fun l t => by rw [arr_get, arr_get]; rfl
  have hs := h.perm.1
  simp only [List.size_toArray] at hs
  refine ⟨k + 1, ?_, ?_, ?_, ?_, ?_, ?_, ?_⟩
  · have := h.lt; simp at this ⊢; omega
  · intro t h1 h2
    obtain ⟨t, rfl⟩ : ∃ u, t = u + 1 := ⟨t - 1, by omega⟩
    rw [hg, hg]
    exact h.falls t (by omega) (by simp at h2 ⊢; omega)
  · rw [hg, hg]; exact h.up
  · refine ⟨by simp [hs], fun i hi => ?_, ?_⟩
    · cases i with
      | zero => rw [arr_get, arr_get]; rfl
      | succ i => rw [hg, hg]; exact h.perm.2.1 i (by simp at hi ⊢; omega)
    · have := h.perm.2.2
      simp only [List.size_toArray, List.length_cons, Array.toList_extract, List.extract_eq_take_drop, List.drop_succ_cons] at this ⊢
      rwa [show d.length + 1 - (k + 1) = d.length - k from by omega]
  · rw [hg, hg]; exact h.more
  · intro t h1 h2 h3
    obtain ⟨t, rfl⟩ : ∃ u, t = u + 1 := ⟨t - 1, by omega⟩
    rw [hg, hg] at h3
    rw [hg, hg]
    exact h.least t (by omega) (by simp at h2 ⊢; omega) h3
  · intro t h1 h2
    obtain ⟨t, rfl⟩ : ∃ u, t = u + 1 := ⟨t - 1, by omega⟩
    rw [hg, hg]
    exact h.rises t (by omega) (by simp at h2 ⊢; omega)
theorem next_edge {a j : Int} {u v : List Int} (hp : (a :: u).Perm (j :: v)) (haj : a < j) (hj : j ∈ u) (hl : ∀ x ∈ u, a < x → j ≤ x) (hf : FallsL u) (hr : Rises v.toArray 0) : NxL (a :: u) (j :: v) := by
  have hg : ∀ (x : Int) (l : List Int) (t : Nat), (x :: l).toArray[t + 1]! = l.toArray[t]! := fun x l t => by rw [arr_get, arr_get]; rfl
  have h0 : ∀ (x : Int) (l : List Int), (x :: l).toArray[0]! = x := fun x l => by rw [arr_get]; rfl
  have hul : 0 < u.length := List.length_pos_of_mem hj
  have hlen := hp.length_eq
  simp only [List.length_cons] at hlen
  refine ⟨0, ?_, ?_, ?_, perm_in_all hp, ?_, ?_, ?_⟩
  · simp; omega
  · intro t h1 h2
    obtain ⟨t, rfl⟩ : ∃ u, t = u + 1 := ⟨t - 1, by omega⟩
    rw [hg, hg]
    exact hf t (by omega) (by simp at h2 ⊢; omega)
  · rw [h0, hg]
    obtain ⟨t, ht, e⟩ := List.getElem_of_mem hj
    have := falls_le hf t 0 (by omega) (by simpa using ht)
    rw [Nat.zero_add, arr_get u t] at this
    rw [List.getD, List.getElem?_eq_getElem ht, e] at this
    simp only [Option.getD_some] at this
    omega
  · rw [h0, h0]; exact haj
  · intro t h1 h2 h3
    obtain ⟨t, rfl⟩ : ∃ u, t = u + 1 := ⟨t - 1, by omega⟩
    rw [h0, hg] at h3
    rw [h0, hg]
    have ht : t < u.length := by simp at h2; omega
    have e : u.toArray[t]! = u[t] := by rw [arr_get, List.getD, List.getElem?_eq_getElem ht]; rfl
    rw [e] at h3 ⊢
    exact hl _ (List.getElem_mem ht) h3
  · intro t h1 h2
    obtain ⟨t, rfl⟩ : ∃ u, t = u + 1 := ⟨t - 1, by omega⟩
    rw [hg, hg]
    exact hr t (by omega) (by simp at h2 ⊢; omega)
end Go.Proofs.Ytkbbpjknakajeaa.Ex
/- All rows of counts, one behind the other: each is followed by the next; the last by none; how many there are. Plain Lean. -/
namespace Go.Proofs.Ytkbbpjknakajeaa.Ex
open Go.Sort
theorem first_sorted (c : List Nat) : (firstRow c).Pairwise (· ≤ ·) := by
  unfold firstRow
  rw [List.pairwise_flatMap]
  refine ⟨fun a _ => ?_, ?_⟩
  · rw [List.pairwise_replicate]; exact .inr (Int.le_refl _)
  · refine List.Pairwise.imp ?_ (List.pairwise_lt_range' ..)
    intro a b hab x hx y hy
    have e1 := List.eq_of_mem_replicate hx
    have e2 := List.eq_of_mem_replicate hy
    omega
theorem rises_of_sorted {l : List Int} (h : l.Pairwise (· ≤ ·)) : Rises l.toArray 0 := by
  intro t _ h2
  simp only [List.size_toArray] at h2
  rw [arr_get, arr_get, List.getD, List.getD, List.getElem?_eq_getElem (by omega), List.getElem?_eq_getElem h2]
  exact List.pairwise_iff_getElem.1 h t (t + 1) (by omega) h2 (by omega)
theorem getD_le_sum (c : List Nat) (i : Nat) : c.getD i 0 ≤ c.sum := by
  induction c generalizing i with
  | nil => simp
  | cons a c ih =>
    cases i with
    | zero => simp
    | succ i => have := ih i; simp at this ⊢; omega
theorem pos_of_sum {c : List Nat} (h : 0 < c.sum) : ∃ j, j < c.length ∧ 0 < c.getD j 0 := by
  induction c with
  | nil => simp at h
  | cons a c ih =>
    rcases Nat.eq_zero_or_pos a with h0 | h0
    · obtain ⟨j, h1, h2⟩ := ih (by simp at h; omega)
      exact ⟨j + 1, by simpa using h1, by simpa using h2⟩
    · exact ⟨0, by simp, by simpa using h0⟩
theorem first_nil {c : List Nat} (h : c.sum = 0) : firstRow c = [] := by
  unfold firstRow
  rw [List.flatMap_eq_nil_iff]
  intro i _
  have := getD_le_sum c i
  rw [show c.getD i 0 = 0 from by omega]; rfl
def Ch (l : List (List Int)) : Prop := ∀ k r r', l[k]? = some r → l[k + 1]? = some r' → NxL r r'
theorem ch_append {l1 l2 : List (List Int)} (h1 : Ch l1) (h2 : Ch l2) (he : ∀ r r', l1.getLast? = some r → l2.head? = some r' → NxL r r') : Ch (l1 ++ l2) := by
  intro k r r' hr hr'
  rcases Nat.lt_trichotomy (k + 1) l1.length with h | h | h
  · rw [List.getElem?_append_left (by omega)] at hr
    rw [List.getElem?_append_left (by omega)] at hr'
    exact h1 k r r' hr hr'
  · rw [List.getElem?_append_left (by omega)] at hr
    rw [List.getElem?_append_right (by omega), show k + 1 - l1.length = 0 from by omega] at hr'
    refine he r r' ?_ ?_
    · rw [List.getLast?_eq_getElem?, show l1.length - 1 = k from by omega]; exact hr
    · rw [List.head?_eq_getElem?]; exact hr'
  · rw [List.getElem?_append_right (by omega)] at hr hr'
    rw [show k + 1 - l1.length = k - l1.length + 1 from by omega] at hr'
    exact h2 _ r r' hr hr'
theorem ch_map {l : List (List Int)} (x : Int) (h : Ch l) : Ch (l.map (x :: ·)) := by
  intro k r r' hr hr'
  rw [List.getElem?_map] at hr hr'
  cases e : l[k]? with
  | none => rw [e] at hr; cases hr
  | some u =>
    cases e' : l[k + 1]? with
    | none => rw [e'] at hr'; cases hr'
    | some v =>
      rw [e] at hr; rw [e'] at hr'
      simp at hr hr'
      subst hr hr'
      exact next_cons x (h k u v e e')
structure Good (s : Nat) (c : List Nat) : Prop where
  head : (rows s c).head? = some (firstRow c)
  last : ∃ r, (rows s c).getLast? = some r ∧ FallsL r
  chain : Ch (rows s c)
def part (s : Nat) (c : List Nat) (i : Nat) : List (List Int) := if 0 < c.getD i 0 then (rows s (dec c i)).map ((i : Int) :: ·) else []
def Blk (s : Nat) (c : List Nat) (a n : Nat) : Prop :=
  let b := (List.range' a n).flatMap (part s c)
  ((∀ j, a ≤ j → j < a + n → c.getD j 0 = 0) ∧ b = []) ∨
  ∃ j i, (a ≤ j ∧ j < a + n ∧ 0 < c.getD j 0 ∧ ∀ k, a ≤ k → k < j → c.getD k 0 = 0) ∧ b.head? = some ((j : Int) :: firstRow (dec c j)) ∧ Ch b ∧
    (a ≤ i ∧ i < a + n ∧ 0 < c.getD i 0 ∧ ∀ k, i < k → k < a + n → c.getD k 0 = 0) ∧ ∃ r, b.getLast? = some ((i : Int) :: r) ∧ r ∈ rows s (dec c i) ∧ FallsL r
theorem good_ne {s : Nat} {c : List Nat} (h : Good s c) : rows s c ≠ [] := by
  intro e
  have := h.head
  rw [e] at this
  cases this
theorem edge {s : Nat} {c : List Nat} (hs : c.sum = s + 1) {a j : Nat} (ha : 0 < c.getD a 0) (hj : 0 < c.getD j 0) (haj : a < j) (hz : ∀ k, a + 1 ≤ k → k < j → c.getD k 0 = 0) {r : List Int} (hr : r ∈ rows s (dec c a)) (hf : FallsL r) :
    NxL ((a : Int) :: r) ((j : Int) :: firstRow (dec c j)) := by
  have hd : (dec c a).sum = s := by have := sum_dec c a ha; omega
  have hcr : ∀ x, r.count x = mult (dec c a) x := count_row s (dec c a) r hd hr
  refine next_edge ?_ (by omega) ?_ ?_ hf (rises_of_sorted (first_sorted _))
  · refine perm_of_counts (c := c) (fun x => ?_) (fun x => ?_)
    · rw [List.count_cons, hcr x, ← mult_dec c a ha x]; simp only [beq_iff_eq]; omega
    · rw [List.count_cons, count_first, ← mult_dec c j hj x]; simp only [beq_iff_eq]; omega
  · rw [mem_of_count hcr, mult_nat, dec_get, if_neg (by omega)]; exact hj
  · intro x hx hax
    have hm := (mem_of_count hcr x).1 hx
    unfold mult at hm
    rw [if_pos (by omega), dec_get, if_neg (by omega)] at hm
    rcases Nat.lt_or_ge x.toNat j with h | h
    · have := hz x.toNat (by omega) h; omega
    · omega
theorem blk_all {s : Nat} {c : List Nat} (hs : c.sum = s + 1) (ih : ∀ c', c'.sum = s → Good s c') : ∀ n a, Blk s c a n := by
  intro n
  induction n with
  | zero => intro a; exact .inl ⟨fun j h1 h2 => by omega, by simp⟩
  | succ n ihn =>
    intro a
    have hsplit : (List.range' a (n + 1)).flatMap (part s c) = part s c a ++ (List.range' (a + 1) n).flatMap (part s c) := by
      rw [List.range'_succ, List.flatMap_cons]
    unfold Blk
    simp only [hsplit]
    rcases Nat.eq_zero_or_pos (c.getD a 0) with h0 | h0
    · have hp : part s c a = [] := by unfold part; rw [if_neg (by omega)]
      rw [hp, List.nil_append]
      rcases ihn (a + 1) with ⟨hz, hb⟩ | ⟨j, i, ⟨j1, j2, j3, j4⟩, hh, hc, ⟨i1, i2, i3, i4⟩, r, hr⟩
      · refine .inl ⟨fun j h1 h2 => ?_, hb⟩
        rcases Nat.lt_or_ge a j with h3 | h3
        · exact hz j (by omega) (by omega)
        · obtain rfl : j = a := by omega
          exact h0
      · refine .inr ⟨j, i, ⟨by omega, by omega, j3, fun k h1 h2 => ?_⟩, hh, hc, ⟨by omega, by omega, i3, fun k h1 h2 => i4 k h1 (by omega)⟩, r, hr⟩
        rcases Nat.lt_or_ge a k with h3 | h3
        · exact j4 k (by omega) h2
        · obtain rfl : k = a := by omega
          exact h0
    · have hp : part s c a = (rows s (dec c a)).map ((a : Int) :: ·) := by unfold part; rw [if_pos h0]
      have hg := ih (dec c a) (by have := sum_dec c a h0; omega)
      obtain ⟨r0, hr0, hf0⟩ := hg.last
      have hm0 : r0 ∈ rows s (dec c a) := List.mem_of_getLast? hr0
      have hh : (part s c a).head? = some ((a : Int) :: firstRow (dec c a)) := by rw [hp, List.head?_map, hg.head]; rfl
      have hl : (part s c a).getLast? = some ((a : Int) :: r0) := by rw [hp, List.getLast?_map, hr0]; rfl
      have hc : Ch (part s c a) := by rw [hp]; exact ch_map _ hg.chain
      rcases ihn (a + 1) with ⟨hz, hb⟩ | ⟨j, i, ⟨j1, j2, j3, j4⟩, hh2, hc2, ⟨i1, i2, i3, i4⟩, r, hr⟩
      · refine .inr ⟨a, a, ⟨Nat.le_refl _, by omega, h0, fun k h1 h2 => by omega⟩, ?_, ?_, ⟨Nat.le_refl _, by omega, h0, fun k h1 h2 => hz k (by omega) (by omega)⟩, r0, ?_, hm0, hf0⟩
        · rw [hb, List.append_nil]; exact hh
        · rw [hb, List.append_nil]; exact hc
        · rw [hb, List.append_nil]; exact hl
      · refine .inr ⟨a, i, ⟨Nat.le_refl _, by omega, h0, fun k h1 h2 => by omega⟩, ?_, ?_, ⟨by omega, by omega, i3, fun k h1 h2 => i4 k h1 (by omega)⟩, r, ?_, hr.2⟩
        · rw [List.head?_append, hh]; rfl
        · refine ch_append hc hc2 fun u v hu hv => ?_
          rw [hl] at hu; rw [hh2] at hv
          cases hu; cases hv
          exact edge hs h0 j3 (by omega) j4 hm0 hf0
        · rw [List.getLast?_append, hr.1]; rfl
theorem good : ∀ s c, c.sum = s → Good s c := by
  intro s
  induction s with
  | zero =>
    intro c hs
    refine ⟨by rw [first_nil hs]; rfl, ⟨[], rfl, fun t h1 h2 => by simp at h2⟩, fun k r r' h1 h2 => ?_⟩
    simp [rows] at h2
  | succ s ih =>
    intro c hs
    have hb := blk_all hs ih c.length 0
    have hrows : rows (s + 1) c = (List.range' 0 c.length).flatMap (part s c) := rfl
    unfold Blk at hb
    simp only [← hrows] at hb
    rcases hb with ⟨hz, _⟩ | ⟨j, i, ⟨_, j2, j3, j4⟩, hh, hc, ⟨_, i2, i3, i4⟩, r, hr, hm, hf⟩
    · obtain ⟨j, h1, h2⟩ := pos_of_sum (c := c) (by omega)
      have := hz j (by omega) (by omega)
      omega
    · have hd : (dec c i).sum = s := by have := sum_dec c i i3; omega
      refine ⟨?_, ⟨_, hr, ?_⟩, hc⟩
      · rw [hh]
        congr 1
        refine List.Perm.eq_of_pairwise (le := (· ≤ ·)) (fun a b _ _ h1 h2 => by omega) ?_ (first_sorted c) ?_
        · refine List.pairwise_cons.2 ⟨fun x hx => ?_, first_sorted _⟩
          have hm := (mem_of_count (count_first (dec c j)) x).1 hx
          unfold mult at hm
          split at hm
          · rw [dec_get] at hm
            split at hm
            · omega
            · rcases Nat.lt_or_ge x.toNat j with h | h
              · have := j4 x.toNat (by omega) h; omega
              · omega
          · omega
        · refine perm_of_counts (c := c) (fun x => ?_) (count_first c)
          rw [List.count_cons, count_first, ← mult_dec c j j3 x]; simp only [beq_iff_eq]; omega
      · intro t h1 h2
        simp only [List.size_toArray, List.length_cons] at h2
        rw [arr_get, arr_get]
        cases t with
        | zero =>
          have ht : 0 < r.length := by omega
          have hmem : r[0] ∈ r := List.getElem_mem ht
          have hx := (mem_of_count (count_row s (dec c i) r hd hm) _).1 hmem
          have e : ((i : Int) :: r).getD (0 + 1) 0 = r[0] := by simp [List.getD, ht]
          rw [e]
          show r[0] ≤ (i : Int)
          unfold mult at hx
          split at hx
          · rw [dec_get] at hx
            split at hx
            · omega
            · rcases Nat.lt_or_ge i (r[0]).toNat with h | h
              · rcases Nat.lt_or_ge (r[0]).toNat c.length with h3 | h3
                · have := i4 _ h (by omega); omega
                · rw [getD_zero h3] at hx; omega
              · omega
          · omega
        | succ t =>
          have := hf t (by omega) (by simp; omega)
          rw [arr_get, arr_get] at this
          exact this
/-! ### how many -/
def fact : Nat → Nat
  | 0 => 1
  | n + 1 => (n + 1) * fact n
def pf : List Nat → Nat
  | [] => 1
  | n :: c => fact n * pf c
theorem fact_pos : ∀ n, 0 < fact n
  | 0 => by simp [fact]
  | n + 1 => Nat.mul_pos (by omega) (fact_pos n)
theorem pf_pos : ∀ c, 0 < pf c
  | [] => by simp [pf]
  | n :: c => Nat.mul_pos (fact_pos n) (pf_pos c)
theorem pf_dec (c : List Nat) (i : Nat) (h : 0 < c.getD i 0) : pf c = c.getD i 0 * pf (dec c i) := by
  induction c generalizing i with
  | nil => simp at h
  | cons a c ih =>
    cases i with
    | zero =>
      simp only [List.getD_cons_zero] at h ⊢
      obtain ⟨b, rfl⟩ : ∃ b, a = b + 1 := ⟨a - 1, by omega⟩
      simp [dec, pf, fact, Nat.mul_assoc]
    | succ i =>
      simp only [List.getD_cons_succ] at h ⊢
      have := ih i h
      have e : dec (a :: c) (i + 1) = a :: dec c i := by simp [dec]
      rw [e]
      simp only [pf]
      rw [this, Nat.mul_left_comm]
theorem sum_range (c : List Nat) : ∀ n a, a + n = c.length → ((List.range' a n).map fun i => c.getD i 0).sum = (c.drop a).sum := by
  intro n
  induction n with
  | zero => intro a h; rw [List.drop_eq_nil_of_le (by omega)]; rfl
  | succ n ih =>
    intro a h
    rw [List.range'_succ, List.map_cons, List.sum_cons, ih (a + 1) (by omega), List.drop_eq_getElem_cons (i := a) (l := c) (by omega), List.sum_cons]
    congr 1
    simp [List.getD, show a < c.length from by omega]
theorem len_flat (f : Nat → List (List Int)) (g : Nat → Nat) (p : Nat) (q : Nat) (h : ∀ i, (f i).length * p = g i * q) : ∀ n a, ((List.range' a n).flatMap f).length * p = ((List.range' a n).map g).sum * q := by
  intro n
  induction n with
  | zero => intro a; simp
  | succ n ih =>
    intro a
    simp only [List.range'_succ, List.flatMap_cons, List.map_cons, List.sum_cons, List.length_append]
    rw [Nat.add_mul, Nat.add_mul, ih, h]
theorem pf_zero : ∀ c : List Nat, c.sum = 0 → pf c = 1 := by
  intro c
  induction c with
  | nil => intro _; rfl
  | cons a c ih =>
    intro hs
    have h1 : a = 0 ∧ c.sum = 0 := by simp at hs; omega
    simp [pf, h1.1, fact, ih h1.2]
theorem rows_length : ∀ s c, c.sum = s → (rows s c).length * pf c = fact s := by
  intro s
  induction s with
  | zero =>
    intro c hs
    rw [pf_zero c hs]; rfl
  | succ s ih =>
    intro c hs
    have hrows : rows (s + 1) c = (List.range' 0 c.length).flatMap (part s c) := rfl
    rw [hrows, len_flat (part s c) (fun i => c.getD i 0) (pf c) (fact s) ?_, sum_range c c.length 0 (by omega), List.drop_zero, hs]
    · rfl
    · intro i
      unfold part
      split
      · rename_i h
        rw [List.length_map, pf_dec c i h, Nat.mul_left_comm, ih (dec c i) (by have := sum_dec c i h; omega)]
      · rename_i h
        rw [show c.getD i 0 = 0 from by omega]; simp
end Go.Proofs.Ytkbbpjknakajeaa.Ex
