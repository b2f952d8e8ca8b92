/- A row by its number: the plain part; counts few: no cap. -/
import Derived.Test.YtiapphhldedckaaFirst
namespace Go.Proofs.Ytiapphhldedckaa.Ex
open Go.RowKit Go.Sort Nx
theorem part_zero {t : Nat} {c : List Nat} {i : Nat} (h : c.getD i 0 = 0) : part t c i = [] := by unfold part; rw [if_neg (by omega)]
theorem part_pos {t : Nat} {c : List Nat} {i : Nat} (h : 0 < c.getD i 0) : part t c i = (rows t (dec c i)).map ((i : Int) :: ·) := by unfold part; rw [if_pos h]
def tail (t : Nat) (c : List Nat) (i n : Nat) : List (List Int) := (List.range' i n).flatMap (part t c)
theorem tail_succ (t : Nat) (c : List Nat) (i n : Nat) : tail t c i (n + 1) = part t c i ++ tail t c (i + 1) n := by
  unfold tail; rw [List.range'_succ, List.flatMap_cons]
theorem tail_all (t : Nat) (c : List Nat) : tail t c 0 c.length = rows (t + 1) c := rfl
theorem tail_skip {t : Nat} {c : List Nat} {i n nn : Nat} {rest : List Int} (h0 : c.getD i 0 = 0) (h : (tail t c i (n + 1))[nn]? = some rest) : (tail t c (i + 1) n)[nn]? = some rest := by
  rw [tail_succ, part_zero h0] at h; exact h
theorem tail_here {t : Nat} {c : List Nat} {i n nn : Nat} {rest : List Int} (h0 : 0 < c.getD i 0) (hn : nn < (rows t (dec c i)).length) (h : (tail t c i (n + 1))[nn]? = some rest) : ∃ r, rest = (i : Int) :: r ∧ (rows t (dec c i))[nn]? = some r := by
  rw [tail_succ, part_pos h0, List.getElem?_append_left (by simpa using hn), List.getElem?_map] at h
  rw [List.getElem?_eq_getElem hn] at h ⊢
  simp at h
  exact ⟨_, h.symm, rfl⟩
theorem tail_on {t : Nat} {c : List Nat} {i n nn : Nat} {rest : List Int} (h0 : 0 < c.getD i 0) (hn : (rows t (dec c i)).length ≤ nn) (h : (tail t c i (n + 1))[nn]? = some rest) : (tail t c (i + 1) n)[nn - (rows t (dec c i)).length]? = some rest := by
  rw [tail_succ, part_pos h0, List.getElem?_append_right (by simpa using hn), List.length_map] at h
  exact h
theorem tail_none {t : Nat} {c : List Nat} {i nn : Nat} {rest : List Int} (h : (tail t c i 0)[nn]? = some rest) : False := by simp [tail] at h
theorem nats_set {d : Array Int} {i n : Nat} (hi : i < d.size) (hn : d[i]! = ((n + 1 : Nat) : Int)) : nats (d.setIfInBounds i (n : Int)) = dec (nats d) i := by
  have hg : (nats d).getD i 0 = n + 1 := by rw [nats_get, hn]; simp
  unfold dec
  rw [hg]
  unfold nats
  simp [Array.toList_setIfInBounds, List.map_set]
theorem set_back {d : Array Int} {i : Nat} {x y : Int} (hx : d[i]! = x) : (d.setIfInBounds i y).setIfInBounds i x = d := by
  apply Array.ext (by simp)
  intro j h1 h2
  rw [Array.getElem_setIfInBounds (by simpa using h2)]
  split
  · rename_i e
    subst e
    rw [← hx, getElem!_pos d i h2]
  · rename_i e
    rw [Array.getElem_setIfInBounds h2, if_neg e]
theorem set_get {d : Array Int} {i : Nat} (y : Int) (hi : i < d.size) : (d.setIfInBounds i y)[i]! = y := getElem!_set_same d i y hi
theorem fine_set {d : Array Int} {i : Nat} {y : Int} (hi : i < d.size) (h : Fine d) (hy : ¬ Odd y) : Fine (d.setIfInBounds i y) := by
  intro j hj
  simp only [Array.size_setIfInBounds] at hj
  by_cases e : j = i
  · subst e; rw [set_get y hi]; exact hy
  · rw [getElem!_set_other d i j y e]; exact h j hj
theorem cnt_pos {c : List Nat} {r : Nat} (h : cnt c = some r) : 0 < r := by
  rw [cnt_rows h]
  exact List.length_pos_iff.2 (good_ne (good c.sum c rfl))
theorem cntLoop_le : ∀ c v s r, v ≤ FAR → cntLoop c v s = some r → r ≤ FAR := by
  intro c
  induction c with
  | nil => intro v s r hv h; simp [cntLoop] at h; omega
  | cons n c ih =>
    intro v s r hv h
    unfold cntLoop at h
    split at h
    · cases h
    · rename_i x hx
      split at h
      · cases h
      · rename_i hc
        refine ih _ _ r ?_ h
        have h3 : v ≤ FAR / x := by omega
        exact Nat.le_trans (Nat.mul_le_mul_right _ h3) (Nat.div_mul_le_self _ _)
theorem cnt_le {c : List Nat} {r : Nat} (h : cnt c = some r) : r ≤ FAR := cntLoop_le c 1 0 r (by unfold FAR; omega) h
/-! ### few -/
def smallTable : Bool := (List.range 8).all fun N => (List.range (N + 1)).all fun K => match choose N K with | some x => Nat.ble x 35 | none => false
theorem smallTable_ok : smallTable = true := by decide +kernel
theorem choose_small {N K : Nat} (hN : N ≤ 7) (hK : K ≤ N) : ∃ x, choose N K = some x ∧ x ≤ 35 := by
  have h := smallTable_ok
  unfold smallTable at h
  have h1 := List.all_eq_true.1 h N (List.mem_range.2 (by omega))
  have h2 := List.all_eq_true.1 h1 K (List.mem_range.2 (by omega))
  cases hc : choose N K with
  | none => rw [hc] at h2; cases h2
  | some x => rw [hc] at h2; exact ⟨x, rfl, Nat.le_of_ble_eq_true h2⟩
theorem fact_small : ∀ n, n ≤ 7 → fact n ≤ 5040 := by decide
theorem cntLoop_small : ∀ c v s, v ≤ fact s → s + c.sum ≤ 7 → ∃ r, cntLoop c v s = some r ∧ r ≤ 5040 := by
  intro c
  induction c with
  | nil => intro v s hv hs; exact ⟨v, rfl, Nat.le_trans hv (fact_small s (by simp at hs; omega))⟩
  | cons n c ih =>
    intro v s hv hs
    simp only [List.sum_cons] at hs
    obtain ⟨x, hx, hx35⟩ := choose_small (N := s + n) (K := n) (by omega) (by omega)
    have hfs := fact_small s (by omega)
    have hx0 := (choose_bd hx).1
    have hd : FAR / 35 ≤ FAR / x := Nat.div_le_div_left hx35 hx0
    have h35 : 5040 ≤ FAR / 35 := by unfold FAR; omega
    have hF : 5040 < FAR := by unfold FAR; omega
    unfold cntLoop
    simp only [hx]
    rw [if_neg (by omega)]
    refine ih _ _ ?_ (by omega)
    have he := choose_exact (by omega) hx
    rw [show s + n - n = s from by omega] at he
    rw [← he]
    calc v * x ≤ fact s * x := Nat.mul_le_mul_right _ hv
      _ = x * (1 * fact s) := by rw [Nat.one_mul, Nat.mul_comm]
      _ ≤ x * (fact n * fact s) := Nat.mul_le_mul_left _ (Nat.mul_le_mul_right _ (fact_pos n))
theorem cnt_small {c : List Nat} (h : c.sum ≤ 7) : ∃ r, cnt c = some r ∧ r ≤ 5040 := cntLoop_small c 1 0 (by simp [fact]) (by omega)
end Go.Proofs.Ytiapphhldedckaa.Ex
