/- The row that is made by an exchange and a reversal of the tail is the row that follows. Plain Lean. -/
import Derived.Test.YtiapphhldedckaaNextPlain
namespace Go.Proofs.Ytiapphhldedckaa
open Go.Sort
def turned (d : Array Int) (i : Nat) : Array Int := d.extract 0 (i + 1) ++ (d.extract (i + 1) d.size).reverse
theorem size_turned (d : Array Int) (i : Nat) (h : i < d.size) : (turned d i).size = d.size := by simp [turned]; omega
theorem turned_low (d : Array Int) (i j : Nat) (h : i < d.size) (hj : j ≤ i) : (turned d i)[j]! = d[j]! := by
  rw [getElem!_pos _ j (by rw [size_turned d i h]; omega), getElem!_pos d j (by omega)]
  unfold turned
  rw [Array.getElem_append_left (by simp; omega)]
  simp
theorem turned_high (d : Array Int) (i j : Nat) (h : i < d.size) (hj : i < j) (hj2 : j < d.size) : (turned d i)[j]! = d[d.size + i - j]! := by
  rw [getElem!_pos _ j (by rw [size_turned d i h]; omega), getElem!_pos d _ (by omega)]
  unfold turned
  rw [Array.getElem_append_right (by simp; omega)]
  simp only [Array.getElem_reverse, Array.getElem_extract, Array.size_extract, Array.size_reverse]
  congr 1
  omega
theorem turned_perm (d : Array Int) (i : Nat) (h : i < d.size) : PermIn i d.size d (turned d i) := by
  refine ⟨size_turned d i h, fun j hj => ?_, ?_⟩
  · rcases hj with hj | hj
    · exact turned_low d i j h (by omega)
    · rw [getElem!_neg _ j (by rw [size_turned d i h]; omega), getElem!_neg d j (by omega)]
  · have hs := size_turned d i h
    rw [extract_cons (d := turned d i) (a := i) h (by omega), extract_cons (d := d) (a := i) h (Nat.le_refl _), turned_low d i i h (Nat.le_refl _)]
    refine List.Perm.cons _ ?_
    have e : ((turned d i).extract (i + 1) d.size).toList = (d.extract (i + 1) d.size).toList.reverse := by
      apply List.ext_getElem
      · simp [hs]
      · intro n h1 h2
        simp only [Array.length_toList, Array.size_extract, hs] at h1
        have h3 := turned_high d i (i + 1 + n) h (by omega) (by omega)
        rw [getElem!_pos _ _ (by omega), getElem!_pos d _ (by omega)] at h3
        simp only [Array.getElem_toList, Array.getElem_extract, List.getElem_reverse, Array.length_toList, Array.size_extract]
        rw [h3]
        congr 1
        omega
    rw [e]
    exact List.reverse_perm _
theorem next_turned {d : Array Int} {i k : Nat} (hik : i < k) (hk : k < d.size) (hf : Falls d (i + 1)) (hup : d[i]! < d[i + 1]!) (hlt : d[i]! < d[k]!) (hall : ∀ t, k < t → t < d.size → d[t]! ≤ d[i]!) : NextAt d (turned (swp d i k) i) i := by
  have hs : (swp d i k).size = d.size := size_swp d i k
  have hl : (swp d i k)[i]! = d[k]! := swp_left d i k (by omega) (by omega)
  have hr : (swp d i k)[k]! = d[i]! := swp_right d i k hk
  have ho : ∀ t, t ≠ i → t ≠ k → (swp d i k)[t]! = d[t]! := fun t h1 h2 => swp_other d i k t h1 h2
  have hfs : Falls (swp d i k) (i + 1) := by
    intro t h1 h2
    rw [hs] at h2
    by_cases e1 : t + 1 = k
    · subst e1
      rw [hr, ho t (by omega) (by omega)]
      have := hf t h1 h2
      omega
    · by_cases e2 : t = k
      · subst e2
        rw [hr, ho (t + 1) (by omega) (by omega)]
        exact hall (t + 1) (by omega) h2
      · rw [ho t (by omega) e2, ho (t + 1) (by omega) e1]
        exact hf t h1 h2
  refine ⟨by omega, hf, hup, ?_, ?_, ?_, ?_⟩
  · have := turned_perm (swp d i k) i (by omega)
    rw [hs] at this
    exact permIn_trans _ _ _ _ _ (swp_permIn d i d.size i k (Nat.le_refl _) (by omega) (by omega) hk (Nat.le_refl _)) this
  · rw [turned_low _ i i (by omega) (Nat.le_refl _), hl]; exact hlt
  · intro t h1 h2 h3
    rw [turned_low _ i i (by omega) (Nat.le_refl _), hl]
    rcases Nat.lt_or_ge k t with h4 | h4
    · have := hall t h4 h2; omega
    · have := falls_le hf (k - t) t (by omega) (by omega)
      rwa [show t + (k - t) = k from by omega] at this
  · intro t h1 h2
    rw [size_turned _ i (by omega), hs] at h2
    rw [turned_high _ i t (by omega) (by omega) (by omega), turned_high _ i (t + 1) (by omega) (by omega) (by omega), hs]
    have := hfs (d.size + i - (t + 1)) (by omega) (by omega)
    rwa [show d.size + i - (t + 1) + 1 = d.size + i - t from by omega] at this
end Go.Proofs.Ytiapphhldedckaa
