/- Putting a tail in order by exchanges. Plain Lean. -/
import Derived.Test.YtiapphhldedckaaNextPlain2
namespace Go.Proofs.Ytiapphhldedckaa
open Go.Sort
structure Sorting (d1 dk : Array Int) (lo a : Nat) : Prop where
  perm : PermIn lo d1.size d1 dk
  low : ∀ s t, lo ≤ s → s < lo + a → s ≤ t → t < d1.size → dk[s]! ≤ dk[t]!
def Inner (d1 dk : Array Int) (lo a b : Nat) : Prop := ∀ t, lo + a < t → t < lo + b → t < d1.size → dk[lo + a]! ≤ dk[t]!
theorem Sorting.start (d1 : Array Int) (lo : Nat) : Sorting d1 d1 lo 0 := ⟨permIn_refl _ _ _, fun s t h1 h2 => by omega⟩
theorem Inner.start (d1 dk : Array Int) (lo a : Nat) : Inner d1 dk lo a (a + 1) := fun t h1 h2 => by omega
theorem Inner.keep {d1 dk : Array Int} {lo a b : Nat} (h : Inner d1 dk lo a b) (hn : ¬ dk[lo + b]! < dk[lo + a]!) : Inner d1 dk lo a (b + 1) := by
  intro t h1 h2 h3
  rcases Nat.lt_or_ge t (lo + b) with h4 | h4
  · exact h t h1 h4 h3
  · obtain rfl : t = lo + b := by omega
    omega
theorem Sorting.swap {d1 dk : Array Int} {lo a b : Nat} (h : Sorting d1 dk lo a) (hi : Inner d1 dk lo a b) (hab : a < b) (hb : lo + b < d1.size) (hlt : dk[lo + b]! < dk[lo + a]!) :
    Sorting d1 (swp dk (lo + a) (lo + b)) lo a ∧ Inner d1 (swp dk (lo + a) (lo + b)) lo a (b + 1) := by
  have hs : dk.size = d1.size := h.perm.1
  have hl : (swp dk (lo + a) (lo + b))[lo + a]! = dk[lo + b]! := swp_left _ _ _ (by omega) (by omega)
  have hr : (swp dk (lo + a) (lo + b))[lo + b]! = dk[lo + a]! := swp_right _ _ _ (by omega)
  have ho : ∀ t, t ≠ lo + a → t ≠ lo + b → (swp dk (lo + a) (lo + b))[t]! = dk[t]! := fun t h1 h2 => swp_other _ _ _ t h1 h2
  refine ⟨⟨?_, ?_⟩, ?_⟩
  · have := swp_permIn dk lo d1.size (lo + a) (lo + b) (by omega) (by omega) (by omega) hb (by omega)
    exact permIn_trans _ _ _ _ _ h.perm this
  · intro s t h1 h2 h3 h4
    rw [ho s (by omega) (by omega)]
    by_cases e1 : t = lo + a
    · subst e1; rw [hl]; exact h.low s (lo + b) h1 h2 (by omega) hb
    · by_cases e2 : t = lo + b
      · subst e2; rw [hr]; exact h.low s (lo + a) h1 h2 (by omega) (by omega)
      · rw [ho t e1 e2]; exact h.low s t h1 h2 h3 h4
  · intro t h1 h2 h3
    rw [hl]
    by_cases e2 : t = lo + b
    · subst e2; rw [hr]; omega
    · rw [ho t (by omega) e2]
      have := hi t h1 (by omega) h3
      omega
theorem Sorting.step {d1 dk : Array Int} {lo a b : Nat} (h : Sorting d1 dk lo a) (hi : Inner d1 dk lo a b) (hb : d1.size ≤ lo + b) : Sorting d1 dk lo (a + 1) := by
  refine ⟨h.perm, fun s t h1 h2 h3 h4 => ?_⟩
  rcases Nat.lt_or_ge s (lo + a) with h5 | h5
  · exact h.low s t h1 h5 h3 h4
  · obtain rfl : s = lo + a := by omega
    rcases Nat.lt_or_ge (lo + a) t with h6 | h6
    · exact hi t h6 (by omega) h4
    · obtain rfl : t = lo + a := by omega
      exact Int.le_refl _
/-- the least of those that are greater -/
structure Best (d : Array Int) (i k best : Nat) : Prop where
  lt : i < best
  bd : best < k
  more : d[i]! < d[best]!
  least : ∀ t, i < t → t < k → d[i]! < d[t]! → d[best]! ≤ d[t]!
def NoBest (d : Array Int) (i k : Nat) : Prop := ∀ t, i < t → t < k → d[t]! ≤ d[i]!
theorem NoBest.keep {d : Array Int} {i k : Nat} (h : NoBest d i k) (hn : d[k]! ≤ d[i]!) : NoBest d i (k + 1) := by
  intro t h1 h2
  rcases Nat.lt_or_ge t k with h3 | h3
  · exact h t h1 h3
  · obtain rfl : t = k := by omega
    exact hn
theorem NoBest.first {d : Array Int} {i k : Nat} (h : NoBest d i k) (hik : i < k) (hn : d[i]! < d[k]!) : Best d i (k + 1) k := by
  refine ⟨hik, by omega, hn, fun t h1 h2 h3 => ?_⟩
  rcases Nat.lt_or_ge t k with h4 | h4
  · have := h t h1 h4; omega
  · obtain rfl : t = k := by omega
    exact Int.le_refl _
theorem Best.keep {d : Array Int} {i k best : Nat} (h : Best d i k best) (hn : d[i]! < d[k]! → d[best]! ≤ d[k]!) : Best d i (k + 1) best := by
  refine ⟨h.lt, by have := h.bd; omega, h.more, fun t h1 h2 h3 => ?_⟩
  rcases Nat.lt_or_ge t k with h4 | h4
  · exact h.least t h1 h4 h3
  · obtain rfl : t = k := by omega
    exact hn h3
theorem Best.better {d : Array Int} {i k best : Nat} (h : Best d i k best) (h1 : d[i]! < d[k]!) (h2 : d[k]! < d[best]!) : Best d i (k + 1) k := by
  refine ⟨by have := h.lt; have := h.bd; omega, by omega, h1, fun t h3 h4 h5 => ?_⟩
  rcases Nat.lt_or_ge t k with h6 | h6
  · have := h.least t h3 h6 h5; omega
  · obtain rfl : t = k := by omega
    exact Int.le_refl _
theorem next_sorted {d dk : Array Int} {i best a : Nat} (hb : Best d i d.size best) (hf : Falls d (i + 1)) (hup : d[i]! < d[i + 1]!) (hs : Sorting (swp d i best) dk (i + 1) a) (ha : d.size ≤ i + 1 + a) : NextAt d dk i := by
  have h1 := hb.lt
  have h2 := hb.bd
  have hsz : (swp d i best).size = d.size := size_swp d i best
  have hp := hs.perm
  rw [hsz] at hp
  have hl : dk[i]! = d[best]! := by rw [hp.2.1 i (.inl (by omega))]; exact swp_left d i best (by omega) (by omega)
  refine ⟨by omega, hf, hup, ?_, ?_, ?_, ?_⟩
  · have h3 := swp_permIn d i d.size i best (Nat.le_refl _) (by omega) (by omega) h2 (Nat.le_refl _)
    refine permIn_trans _ _ _ _ _ h3 ?_
    refine ⟨hp.1, fun j hj => hp.2.1 j (by omega), ?_⟩
    rw [extract_cons (d := dk) (a := i) (by omega) (by rw [hp.1, hsz]; exact Nat.le_refl _), extract_cons (d := swp d i best) (a := i) (by omega) (by omega), hp.2.1 i (.inl (by omega))]
    exact List.Perm.cons _ hp.2.2
  · rw [hl]; exact hb.more
  · intro t h3 h4 h5; rw [hl]; exact hb.least t h3 h4 h5
  · intro t h3 h4
    rw [hp.1, hsz] at h4
    exact hs.low t (t + 1) h3 (by omega) (by omega) (by omega)
end Go.Proofs.Ytiapphhldedckaa
