/- The plain laws: both onces ask the same; both Fits ask the same. -/
import Derived.Test.YtkbbpjknakajeaaFitsR
namespace Go.Proofs.Ytkbbpjknakajeaa.Li
open Go.RowKit Go.Shelf Go.Sort

/-- 0, 1, .., n - 1 -/
def iota (n : Nat) : List Int := (List.range n).map Int.ofNat
theorem iota_length (n : Nat) : (iota n).length = n := by simp [iota]
theorem iota_succ (n : Nat) : iota (n + 1) = iota n ++ [(n : Int)] := by simp [iota, List.range_succ]
theorem mem_iota {n : Nat} {x : Int} : x ∈ iota n ↔ 0 ≤ x ∧ x < (n : Int) := by
  constructor
  · intro h
    obtain ⟨i, hi, rfl⟩ := List.mem_map.1 h
    have := List.mem_range.1 hi
    constructor
    · exact Int.natCast_nonneg i
    · exact Int.ofNat_lt.2 this
  · rintro ⟨h0, h1⟩
    exact List.mem_map.2 ⟨x.toNat, List.mem_range.2 (by omega), Int.toNat_of_nonneg h0⟩
theorem iota_get (n j : Nat) (h : j < n) : (iota n)[j]? = some (j : Int) := by
  simp [iota, h]
theorem iota_sorted (n : Nat) : (iota n).Pairwise (fun x y => (decide (x ≤ y)) = true) := by
  induction n with
  | zero => exact List.Pairwise.nil
  | succ n ih =>
    rw [iota_succ, List.pairwise_append]
    refine ⟨ih, List.pairwise_singleton _ _, fun a ha b hb => ?_⟩
    have := mem_iota.1 ha
    cases List.mem_singleton.1 hb
    simp; omega
theorem sortedI_perm {zs : List Int} {n : Nat} (h : zs.Perm (iota n)) : sortedI zs = iota n := by
  have tr : ∀ a b c : Int, decide (a ≤ b) = true → decide (b ≤ c) = true → decide (a ≤ c) = true := fun a b c h1 h2 => by simp only [decide_eq_true_eq] at *; omega
  have to : ∀ a b : Int, (decide (a ≤ b) || decide (b ≤ a)) = true := fun a b => by simp only [Bool.or_eq_true, decide_eq_true_eq]; omega
  refine List.Perm.eq_of_pairwise (le := fun a b => decide (a ≤ b) = true) (fun a b _ _ h1 h2 => ?_) (List.pairwise_mergeSort tr to zs) (iota_sorted n) ((List.mergeSort_perm zs _).trans h)
  simp only [decide_eq_true_eq] at h1 h2
  omega
theorem upTo_iota {d : Array Int} (h : UpTo d d.size) : d.toList = iota d.size := by
  apply List.ext_getElem?
  intro j
  rcases Nat.lt_or_ge j d.size with hj | hj
  · have := h j hj
    rw [getElem!_pos d j hj] at this
    rw [iota_get _ _ hj, ← this]
    simp [hj]
  · rw [List.getElem?_eq_none (by simpa using hj), List.getElem?_eq_none (by rw [iota_length]; exact hj)]
theorem iota_upTo (n : Nat) : UpTo (iota n).toArray n := by
  intro j hj
  have h1 : j < (iota n).toArray.size := by simpa [iota] using hj
  rw [getElem!_pos _ j h1]
  simp [iota]
theorem onceRes_perm {n : Nat} {d : Array Int} : OnceRes n d ↔ d.toList.Perm (iota n) := by
  constructor
  · rintro ⟨h1, h2⟩
    have hl : (sortedI d.toList).toArray.size = d.size := by simp [length_sortedI]
    rw [← hl] at h2
    have h3 := upTo_iota h2
    rw [hl, h1] at h3
    exact (List.mergeSort_perm d.toList _).symm.trans (by rw [show d.toList.mergeSort (fun x y => decide (x ≤ y)) = iota n from h3])
  · intro h
    have h1 : d.size = n := by have := h.length_eq; simpa [iota_length] using this
    refine ⟨h1, ?_⟩
    rw [sortedI_perm h, h1]
    exact iota_upTo n
theorem cnt_count (d : Array Int) (i : Int) : ∀ k, k ≤ d.size → cnt d i k = (d.toList.take k).count i
  | 0, _ => by simp [cnt]
  | k + 1, h => by
    have hk : k < d.toList.length := by simp; omega
    rw [cnt, cnt_count d i k (by omega), List.take_add_one, List.getElem?_eq_getElem hk, List.count_append]
    rw [getElem!_pos d k (by omega)]
    simp [List.count_cons]
theorem cnt_all (d : Array Int) (i : Int) : cnt d i d.size = d.toList.count i := by
  rw [cnt_count d i d.size (Nat.le_refl _)]
  congr 1
  exact List.take_of_length_le (by simp)
theorem count_iota {n i : Nat} (h : i < n) : (iota n).count (i : Int) = 1 := by
  induction n with
  | zero => omega
  | succ n ih =>
    rw [iota_succ, List.count_append]
    rcases Nat.lt_or_ge i n with h1 | h1
    · rw [ih h1, List.count_cons_of_ne (by omega)]; simp
    · obtain rfl : i = n := by omega
      rw [List.count_eq_zero_of_not_mem (fun hm => by have := (mem_iota.1 hm).2; omega)]
      simp
theorem perm_of_counts : ∀ (n : Nat) (zs : List Int), zs.length = n → (∀ i : Nat, i < n → 1 ≤ zs.count (i : Int)) → zs.Perm (iota n)
  | 0, zs, hl, _ => by rw [List.eq_nil_of_length_eq_zero hl]; exact List.Perm.refl _
  | n + 1, zs, hl, hc => by
    have hm : (n : Int) ∈ zs := List.count_pos_iff.1 (hc n (by omega))
    have hp := List.perm_cons_erase hm
    have ih := perm_of_counts n (zs.erase (n : Int)) (by rw [List.length_erase_of_mem hm]; omega) (fun i hi => by
      rw [List.count_erase_of_ne (by omega)]; exact hc i (by omega))
    rw [iota_succ]
    exact hp.trans ((List.Perm.cons _ ih).trans (List.perm_append_singleton _ _).symm)
theorem onceR_perm {n : Nat} {d : Array Int} : OnceR n d ↔ d.toList.Perm (iota n) := by
  constructor
  · rintro ⟨h1, h2⟩
    refine perm_of_counts n d.toList (by simpa using h1) (fun i hi => ?_)
    have := h2 i hi
    rw [cnt_all] at this
    omega
  · intro h
    refine ⟨by have := h.length_eq; simpa [iota_length] using this, fun i hi => ?_⟩
    rw [cnt_all, h.count_eq, count_iota hi]
theorem once_iff {n : Nat} {d : Array Int} : OnceRes n d ↔ OnceR n d := onceRes_perm.trans onceR_perm.symm
theorem within_of_perm {n : Nat} {d : Array Int} (h : d.toList.Perm (iota n)) : Within n d := by
  intro k hk
  rw [getElem!_pos d k hk]
  exact mem_iota.1 (h.mem_iff.1 (by simp))
theorem once_within {n : Nat} {d : Array Int} (h : OnceRes n d) : Within n d := within_of_perm (onceRes_perm.1 h)
/-- the greatest From of the first k is no smaller than any of them, and is one of them -/
theorem lat_ge (l : Array QOp) (d : Array Int) : ∀ k j, j < k → (at_ l d j).fr ≤ lat l d k
  | k + 1, j, h => by
    rw [lat]
    rcases Nat.lt_or_ge j k with h1 | h1
    · have := lat_ge l d k j h1
      split <;> omega
    · obtain rfl : j = k := by omega
      split <;> omega
theorem lat_is (l : Array QOp) (d : Array Int) : ∀ k, 0 < k → ∃ j, j < k ∧ lat l d k = (at_ l d j).fr
  | k + 1, _ => by
    rw [lat]
    by_cases hc : k = 0 ∨ lat l d k < (at_ l d k).fr
    · rw [if_pos hc]; exact ⟨k, by omega, rfl⟩
    · rw [if_neg hc]
      obtain ⟨j, hj, e⟩ := lat_is l d k (by omega)
      exact ⟨j, by omega, e⟩
theorem fits_iff (l : Array QOp) (d : Array Int) (m : Nat) : FitsM l d m ↔ FitsR l d m := by
  constructor
  · intro h i hi j hj
    have h1 := h i hi (by omega)
    have h2 := lat_ge l d i j hj
    omega
  · intro h k hk h0
    obtain ⟨j, hj, e⟩ := lat_is l d k h0
    rw [e]
    exact h k hk j hj
end Go.Proofs.Ytkbbpjknakajeaa.Li
