/- All rows of counts, one behind the other: each is followed by the next; the last by none; how many there are. Plain Lean. -/
import Derived.Test.YtiapphhldedckaaRowsPlain
namespace Go.Proofs.Ytiapphhldedckaa.Ex
open Go.Sort
theorem first_sorted (c : List Nat) : (firstRow c).Pairwise (· ≤ ·) := by
  unfold firstRow
  rw [List.pairwise_flatMap]
  refine ⟨fun a _ => ?_, ?_⟩
  · rw [List.pairwise_replicate]; exact .inr (Int.le_refl _)
  · refine List.Pairwise.imp ?_ (List.pairwise_lt_range' ..)
    intro a b hab x hx y hy
    have e1 := List.eq_of_mem_replicate hx
    have e2 := List.eq_of_mem_replicate hy
    omega
theorem rises_of_sorted {l : List Int} (h : l.Pairwise (· ≤ ·)) : Rises l.toArray 0 := by
  intro t _ h2
  simp only [List.size_toArray] at h2
  rw [arr_get, arr_get, List.getD, List.getD, List.getElem?_eq_getElem (by omega), List.getElem?_eq_getElem h2]
  exact List.pairwise_iff_getElem.1 h t (t + 1) (by omega) h2 (by omega)
theorem getD_le_sum (c : List Nat) (i : Nat) : c.getD i 0 ≤ c.sum := by
  induction c generalizing i with
  | nil => simp
  | cons a c ih =>
    cases i with
    | zero => simp
    | succ i => have := ih i; simp at this ⊢; omega
theorem pos_of_sum {c : List Nat} (h : 0 < c.sum) : ∃ j, j < c.length ∧ 0 < c.getD j 0 := by
  induction c with
  | nil => simp at h
  | cons a c ih =>
    rcases Nat.eq_zero_or_pos a with h0 | h0
    · obtain ⟨j, h1, h2⟩ := ih (by simp at h; omega)
      exact ⟨j + 1, by simpa using h1, by simpa using h2⟩
    · exact ⟨0, by simp, by simpa using h0⟩
theorem first_nil {c : List Nat} (h : c.sum = 0) : firstRow c = [] := by
  unfold firstRow
  rw [List.flatMap_eq_nil_iff]
  intro i _
  have := getD_le_sum c i
  rw [show c.getD i 0 = 0 from by omega]; rfl
def Ch (l : List (List Int)) : Prop := ∀ k r r', l[k]? = some r → l[k + 1]? = some r' → NxL r r'
theorem ch_append {l1 l2 : List (List Int)} (h1 : Ch l1) (h2 : Ch l2) (he : ∀ r r', l1.getLast? = some r → l2.head? = some r' → NxL r r') : Ch (l1 ++ l2) := by
  intro k r r' hr hr'
  rcases Nat.lt_trichotomy (k + 1) l1.length with h | h | h
  · rw [List.getElem?_append_left (by omega)] at hr
    rw [List.getElem?_append_left (by omega)] at hr'
    exact h1 k r r' hr hr'
  · rw [List.getElem?_append_left (by omega)] at hr
    rw [List.getElem?_append_right (by omega), show k + 1 - l1.length = 0 from by omega] at hr'
    refine he r r' ?_ ?_
    · rw [List.getLast?_eq_getElem?, show l1.length - 1 = k from by omega]; exact hr
    · rw [List.head?_eq_getElem?]; exact hr'
  · rw [List.getElem?_append_right (by omega)] at hr hr'
    rw [show k + 1 - l1.length = k - l1.length + 1 from by omega] at hr'
    exact h2 _ r r' hr hr'
theorem ch_map {l : List (List Int)} (x : Int) (h : Ch l) : Ch (l.map (x :: ·)) := by
  intro k r r' hr hr'
  rw [List.getElem?_map] at hr hr'
  cases e : l[k]? with
  | none => rw [e] at hr; cases hr
  | some u =>
    cases e' : l[k + 1]? with
    | none => rw [e'] at hr'; cases hr'
    | some v =>
      rw [e] at hr; rw [e'] at hr'
      simp at hr hr'
      subst hr hr'
      exact next_cons x (h k u v e e')
structure Good (s : Nat) (c : List Nat) : Prop where
  head : (rows s c).head? = some (firstRow c)
  last : ∃ r, (rows s c).getLast? = some r ∧ FallsL r
  chain : Ch (rows s c)
def part (s : Nat) (c : List Nat) (i : Nat) : List (List Int) := if 0 < c.getD i 0 then (rows s (dec c i)).map ((i : Int) :: ·) else []
def Blk (s : Nat) (c : List Nat) (a n : Nat) : Prop :=
  let b := (List.range' a n).flatMap (part s c)
  ((∀ j, a ≤ j → j < a + n → c.getD j 0 = 0) ∧ b = []) ∨
  ∃ j i, (a ≤ j ∧ j < a + n ∧ 0 < c.getD j 0 ∧ ∀ k, a ≤ k → k < j → c.getD k 0 = 0) ∧ b.head? = some ((j : Int) :: firstRow (dec c j)) ∧ Ch b ∧
    (a ≤ i ∧ i < a + n ∧ 0 < c.getD i 0 ∧ ∀ k, i < k → k < a + n → c.getD k 0 = 0) ∧ ∃ r, b.getLast? = some ((i : Int) :: r) ∧ r ∈ rows s (dec c i) ∧ FallsL r
theorem good_ne {s : Nat} {c : List Nat} (h : Good s c) : rows s c ≠ [] := by
  intro e
  have := h.head
  rw [e] at this
  cases this
theorem edge {s : Nat} {c : List Nat} (hs : c.sum = s + 1) {a j : Nat} (ha : 0 < c.getD a 0) (hj : 0 < c.getD j 0) (haj : a < j) (hz : ∀ k, a + 1 ≤ k → k < j → c.getD k 0 = 0) {r : List Int} (hr : r ∈ rows s (dec c a)) (hf : FallsL r) :
    NxL ((a : Int) :: r) ((j : Int) :: firstRow (dec c j)) := by
  have hd : (dec c a).sum = s := by have := sum_dec c a ha; omega
  have hcr : ∀ x, r.count x = mult (dec c a) x := count_row s (dec c a) r hd hr
  refine next_edge ?_ (by omega) ?_ ?_ hf (rises_of_sorted (first_sorted _))
  · refine perm_of_counts (c := c) (fun x => ?_) (fun x => ?_)
    · rw [List.count_cons, hcr x, ← mult_dec c a ha x]; simp only [beq_iff_eq]; omega
    · rw [List.count_cons, count_first, ← mult_dec c j hj x]; simp only [beq_iff_eq]; omega
  · rw [mem_of_count hcr, mult_nat, dec_get, if_neg (by omega)]; exact hj
  · intro x hx hax
    have hm := (mem_of_count hcr x).1 hx
    unfold mult at hm
    rw [if_pos (by omega), dec_get, if_neg (by omega)] at hm
    rcases Nat.lt_or_ge x.toNat j with h | h
    · have := hz x.toNat (by omega) h; omega
    · omega
theorem blk_all {s : Nat} {c : List Nat} (hs : c.sum = s + 1) (ih : ∀ c', c'.sum = s → Good s c') : ∀ n a, Blk s c a n := by
  intro n
  induction n with
  | zero => intro a; exact .inl ⟨fun j h1 h2 => by omega, by simp⟩
  | succ n ihn =>
    intro a
    have hsplit : (List.range' a (n + 1)).flatMap (part s c) = part s c a ++ (List.range' (a + 1) n).flatMap (part s c) := by
      rw [List.range'_succ, List.flatMap_cons]
    unfold Blk
    simp only [hsplit]
    rcases Nat.eq_zero_or_pos (c.getD a 0) with h0 | h0
    · have hp : part s c a = [] := by unfold part; rw [if_neg (by omega)]
      rw [hp, List.nil_append]
      rcases ihn (a + 1) with ⟨hz, hb⟩ | ⟨j, i, ⟨j1, j2, j3, j4⟩, hh, hc, ⟨i1, i2, i3, i4⟩, r, hr⟩
      · refine .inl ⟨fun j h1 h2 => ?_, hb⟩
        rcases Nat.lt_or_ge a j with h3 | h3
        · exact hz j (by omega) (by omega)
        · obtain rfl : j = a := by omega
          exact h0
      · refine .inr ⟨j, i, ⟨by omega, by omega, j3, fun k h1 h2 => ?_⟩, hh, hc, ⟨by omega, by omega, i3, fun k h1 h2 => i4 k h1 (by omega)⟩, r, hr⟩
        rcases Nat.lt_or_ge a k with h3 | h3
        · exact j4 k (by omega) h2
        · obtain rfl : k = a := by omega
          exact h0
    · have hp : part s c a = (rows s (dec c a)).map ((a : Int) :: ·) := by unfold part; rw [if_pos h0]
      have hg := ih (dec c a) (by have := sum_dec c a h0; omega)
      obtain ⟨r0, hr0, hf0⟩ := hg.last
      have hm0 : r0 ∈ rows s (dec c a) := List.mem_of_getLast? hr0
      have hh : (part s c a).head? = some ((a : Int) :: firstRow (dec c a)) := by rw [hp, List.head?_map, hg.head]; rfl
      have hl : (part s c a).getLast? = some ((a : Int) :: r0) := by rw [hp, List.getLast?_map, hr0]; rfl
      have hc : Ch (part s c a) := by rw [hp]; exact ch_map _ hg.chain
      rcases ihn (a + 1) with ⟨hz, hb⟩ | ⟨j, i, ⟨j1, j2, j3, j4⟩, hh2, hc2, ⟨i1, i2, i3, i4⟩, r, hr⟩
      · refine .inr ⟨a, a, ⟨Nat.le_refl _, by omega, h0, fun k h1 h2 => by omega⟩, ?_, ?_, ⟨Nat.le_refl _, by omega, h0, fun k h1 h2 => hz k (by omega) (by omega)⟩, r0, ?_, hm0, hf0⟩
        · rw [hb, List.append_nil]; exact hh
        · rw [hb, List.append_nil]; exact hc
        · rw [hb, List.append_nil]; exact hl
      · refine .inr ⟨a, i, ⟨Nat.le_refl _, by omega, h0, fun k h1 h2 => by omega⟩, ?_, ?_, ⟨by omega, by omega, i3, fun k h1 h2 => i4 k h1 (by omega)⟩, r, ?_, hr.2⟩
        · rw [List.head?_append, hh]; rfl
        · refine ch_append hc hc2 fun u v hu hv => ?_
          rw [hl] at hu; rw [hh2] at hv
          cases hu; cases hv
          exact edge hs h0 j3 (by omega) j4 hm0 hf0
        · rw [List.getLast?_append, hr.1]; rfl
theorem good : ∀ s c, c.sum = s → Good s c := by
  intro s
  induction s with
  | zero =>
    intro c hs
    refine ⟨by rw [first_nil hs]; rfl, ⟨[], rfl, fun t h1 h2 => by simp at h2⟩, fun k r r' h1 h2 => ?_⟩
    simp [rows] at h2
  | succ s ih =>
    intro c hs
    have hb := blk_all hs ih c.length 0
    have hrows : rows (s + 1) c = (List.range' 0 c.length).flatMap (part s c) := rfl
    unfold Blk at hb
    simp only [← hrows] at hb
    rcases hb with ⟨hz, _⟩ | ⟨j, i, ⟨_, j2, j3, j4⟩, hh, hc, ⟨_, i2, i3, i4⟩, r, hr, hm, hf⟩
    · obtain ⟨j, h1, h2⟩ := pos_of_sum (c := c) (by omega)
      have := hz j (by omega) (by omega)
      omega
    · have hd : (dec c i).sum = s := by have := sum_dec c i i3; omega
      refine ⟨?_, ⟨_, hr, ?_⟩, hc⟩
      · rw [hh]
        congr 1
        refine List.Perm.eq_of_pairwise (le := (· ≤ ·)) (fun a b _ _ h1 h2 => by omega) ?_ (first_sorted c) ?_
        · refine List.pairwise_cons.2 ⟨fun x hx => ?_, first_sorted _⟩
          have hm := (mem_of_count (count_first (dec c j)) x).1 hx
          unfold mult at hm
          split at hm
          · rw [dec_get] at hm
            split at hm
            · omega
            · rcases Nat.lt_or_ge x.toNat j with h | h
              · have := j4 x.toNat (by omega) h; omega
              · omega
          · omega
        · refine perm_of_counts (c := c) (fun x => ?_) (count_first c)
          rw [List.count_cons, count_first, ← mult_dec c j j3 x]; simp only [beq_iff_eq]; omega
      · intro t h1 h2
        simp only [List.size_toArray, List.length_cons] at h2
        rw [arr_get, arr_get]
        cases t with
        | zero =>
          have ht : 0 < r.length := by omega
          have hmem : r[0] ∈ r := List.getElem_mem ht
          have hx := (mem_of_count (count_row s (dec c i) r hd hm) _).1 hmem
          have e : ((i : Int) :: r).getD (0 + 1) 0 = r[0] := by simp [List.getD, ht]
          rw [e]
          show r[0] ≤ (i : Int)
          unfold mult at hx
          split at hx
          · rw [dec_get] at hx
            split at hx
            · omega
            · rcases Nat.lt_or_ge i (r[0]).toNat with h | h
              · rcases Nat.lt_or_ge (r[0]).toNat c.length with h3 | h3
                · have := i4 _ h (by omega); omega
                · rw [getD_zero h3] at hx; omega
              · omega
          · omega
        | succ t =>
          have := hf t (by omega) (by simp; omega)
          rw [arr_get, arr_get] at this
          exact this
/-! ### how many -/
def fact : Nat → Nat
  | 0 => 1
  | n + 1 => (n + 1) * fact n
def pf : List Nat → Nat
  | [] => 1
  | n :: c => fact n * pf c
theorem fact_pos : ∀ n, 0 < fact n
  | 0 => by simp [fact]
  | n + 1 => Nat.mul_pos (by omega) (fact_pos n)
theorem pf_pos : ∀ c, 0 < pf c
  | [] => by simp [pf]
  | n :: c => Nat.mul_pos (fact_pos n) (pf_pos c)
theorem pf_dec (c : List Nat) (i : Nat) (h : 0 < c.getD i 0) : pf c = c.getD i 0 * pf (dec c i) := by
  induction c generalizing i with
  | nil => simp at h
  | cons a c ih =>
    cases i with
    | zero =>
      simp only [List.getD_cons_zero] at h ⊢
      obtain ⟨b, rfl⟩ : ∃ b, a = b + 1 := ⟨a - 1, by omega⟩
      simp [dec, pf, fact, Nat.mul_assoc]
    | succ i =>
      simp only [List.getD_cons_succ] at h ⊢
      have := ih i h
      have e : dec (a :: c) (i + 1) = a :: dec c i := by simp [dec]
      rw [e]
      simp only [pf]
      rw [this, Nat.mul_left_comm]
theorem sum_range (c : List Nat) : ∀ n a, a + n = c.length → ((List.range' a n).map fun i => c.getD i 0).sum = (c.drop a).sum := by
  intro n
  induction n with
  | zero => intro a h; rw [List.drop_eq_nil_of_le (by omega)]; rfl
  | succ n ih =>
    intro a h
    rw [List.range'_succ, List.map_cons, List.sum_cons, ih (a + 1) (by omega), List.drop_eq_getElem_cons (i := a) (l := c) (by omega), List.sum_cons]
    congr 1
    simp [List.getD, show a < c.length from by omega]
theorem len_flat (f : Nat → List (List Int)) (g : Nat → Nat) (p : Nat) (q : Nat) (h : ∀ i, (f i).length * p = g i * q) : ∀ n a, ((List.range' a n).flatMap f).length * p = ((List.range' a n).map g).sum * q := by
  intro n
  induction n with
  | zero => intro a; simp
  | succ n ih =>
    intro a
    simp only [List.range'_succ, List.flatMap_cons, List.map_cons, List.sum_cons, List.length_append]
    rw [Nat.add_mul, Nat.add_mul, ih, h]
theorem pf_zero : ∀ c : List Nat, c.sum = 0 → pf c = 1 := by
  intro c
  induction c with
  | nil => intro _; rfl
  | cons a c ih =>
    intro hs
    have h1 : a = 0 ∧ c.sum = 0 := by simp at hs; omega
    simp [pf, h1.1, fact, ih h1.2]
theorem rows_length : ∀ s c, c.sum = s → (rows s c).length * pf c = fact s := by
  intro s
  induction s with
  | zero =>
    intro c hs
    rw [pf_zero c hs]; rfl
  | succ s ih =>
    intro c hs
    have hrows : rows (s + 1) c = (List.range' 0 c.length).flatMap (part s c) := rfl
    rw [hrows, len_flat (part s c) (fun i => c.getD i 0) (pf c) (fact s) ?_, sum_range c c.length 0 (by omega), List.drop_zero, hs]
    · rfl
    · intro i
      unfold part
      split
      · rename_i h
        rw [List.length_map, pf_dec c i h, Nat.mul_left_comm, ih (dec c i) (by have := sum_dec c i h; omega)]
      · rename_i h
        rw [show c.getD i 0 = 0 from by omega]; simp
end Go.Proofs.Ytiapphhldedckaa.Ex
