/- How many ways there are, capped: the program's reckoning, and what it comes to where no cap is met. Plain Lean. -/
import Derived.Test.YtiapphhldedckaaBin
namespace Go.Proofs.Ytiapphhldedckaa.Ex
def FAR : Nat := 4611686018427387904
/-- 'choose', from round i on: m rounds are left; none: the cap -/
def chLoop (b : Nat) : Nat → Nat → Nat → Option Nat
  | 0, _, v => some v
  | m + 1, i, v => if FAR / (b + i) * i < v then none else if FAR ≤ v / i * (b + i) + v % i * (b + i) / i then none else chLoop b m (i + 1) (v / i * (b + i) + v % i * (b + i) / i)
def choose (n k : Nat) : Option Nat := chLoop (n - k) k 1 1
theorem step_val (b i v : Nat) (hi : 0 < i) : v / i * (b + i) + v % i * (b + i) / i = v * (b + i) / i := by
  have h := Nat.div_add_mod v i
  have e : v * (b + i) = i * (v / i * (b + i)) + v % i * (b + i) := by
    conv => lhs; rw [← h]
    rw [Nat.add_mul, Nat.mul_assoc]
  rw [e, Nat.mul_add_div hi]
theorem step_pos (b i v : Nat) (hi : 0 < i) (hv : 0 < v) : 0 < v * (b + i) / i := by
  refine Nat.div_pos ?_ hi
  calc i ≤ 1 * (b + i) := by omega
    _ ≤ v * (b + i) := Nat.mul_le_mul_right _ hv
theorem chLoop_bd (b : Nat) : ∀ m i v r, 0 < i → 0 < v → v < FAR → chLoop b m i v = some r → 0 < r ∧ r < FAR := by
  intro m
  induction m with
  | zero => intro i v r _ h1 h2 h; simp [chLoop] at h; subst h; exact ⟨h1, h2⟩
  | succ m ih =>
    intro i v r hi h1 h2 h
    unfold chLoop at h
    split at h
    · cases h
    split at h
    · cases h
    · rename_i h3 h4
      refine ih (i + 1) _ r (by omega) ?_ (by omega) h
      rw [step_val b i v hi]; exact step_pos b i v hi h1
theorem choose_bd {n k r : Nat} (h : choose n k = some r) : 0 < r ∧ r < FAR := chLoop_bd _ k 1 1 r (by omega) (by omega) (by simp [FAR]) h
/-- v * i! * b! = (b + i)! -/
theorem chLoop_fact (b : Nat) : ∀ m i v r, v * (fact i * fact b) = fact (b + i) → chLoop b m (i + 1) v = some r → r * (fact (i + m) * fact b) = fact (b + i + m) := by
  intro m
  induction m with
  | zero => intro i v r h1 h; simp [chLoop] at h; subst h; exact h1
  | succ m ih =>
    intro i v r h1 h
    unfold chLoop at h
    split at h
    · cases h
    split at h
    · cases h
    · rw [step_val b (i + 1) v (by omega)] at h
      have e : v * (b + (i + 1)) / (i + 1) * (fact (i + 1) * fact b) = fact (b + (i + 1)) := by
        have h2 : v * (b + (i + 1)) * (fact i * fact b) = fact (b + (i + 1)) := by
          rw [Nat.mul_right_comm, h1, show b + (i + 1) = b + i + 1 from rfl, fact, Nat.mul_comm]
        have hd : (i + 1) ∣ v * (b + (i + 1)) := step_dvd h1
        obtain ⟨q, hq⟩ := hd
        rw [hq, Nat.mul_div_cancel_left _ (by omega)]
        rw [hq] at h2
        rw [← h2, fact]
        simp only [Nat.mul_assoc, Nat.mul_left_comm, Nat.mul_comm]
      have := ih (i + 1) _ r e h
      rw [show i + 1 + m = i + (m + 1) from by omega, show b + (i + 1) + m = b + i + (m + 1) from by omega] at this
      exact this
theorem choose_exact {n k r : Nat} (hk : k ≤ n) (h : choose n k = some r) : r * (fact k * fact (n - k)) = fact n := by
  have := chLoop_fact (n - k) k 0 1 r (by simp [fact]) h
  rw [Nat.zero_add, show n - k + 0 + k = n from by omega] at this
  exact this
theorem chLoop_shrink (b' b : Nat) (hb : b' ≤ b) : ∀ m i v v' r, 0 < i → v' ≤ v → chLoop b m i v = some r → ∃ r', chLoop b' m i v' = some r' ∧ r' ≤ r := by
  intro m
  induction m with
  | zero => intro i v v' r _ hv h; simp [chLoop] at h; subst h; exact ⟨v', rfl, hv⟩
  | succ m ih =>
    intro i v v' r hi hv h
    unfold chLoop at h ⊢
    rw [step_val b i v hi] at h
    rw [step_val b' i v' hi]
    split at h
    · cases h
    split at h
    · cases h
    · rename_i h1 h2
      have hd : FAR / (b + i) * i ≤ FAR / (b' + i) * i := Nat.mul_le_mul_right _ (Nat.div_le_div_left (by omega) (by omega))
      have hn : v' * (b' + i) / i ≤ v * (b + i) / i := Nat.div_le_div_right (Nat.mul_le_mul hv (by omega))
      rw [if_neg (by omega), if_neg (by omega)]
      exact ih (i + 1) _ _ r (by omega) hn h
theorem chLoop_less (b : Nat) : ∀ m i v r, 0 < i → chLoop b (m + 1) i v = some r → ∃ r', chLoop b m i v = some r' ∧ r' ≤ r := by
  intro m
  induction m with
  | zero =>
    intro i v r hi h
    unfold chLoop at h
    rw [step_val b i v hi] at h
    split at h
    · cases h
    split at h
    · cases h
    · simp [chLoop] at h
      refine ⟨v, rfl, ?_⟩
      rw [← h]
      exact (Nat.le_div_iff_mul_le hi).2 (Nat.mul_le_mul_left _ (by omega))
  | succ m ih =>
    intro i v r hi h
    unfold chLoop at h
    split at h
    · cases h
    split at h
    · cases h
    · rename_i h1 h2
      obtain ⟨r', h3, h4⟩ := ih (i + 1) _ r (by omega) h
      refine ⟨r', ?_, h4⟩
      rw [chLoop, if_neg h1, if_neg h2]; exact h3
/-- 'count', from a place on: none: the cap -/
def cntLoop : List Nat → Nat → Nat → Option Nat
  | [], v, _ => some v
  | n :: c, v, s => match choose (s + n) n with
    | none => none
    | some x => if FAR ≤ v ∨ FAR / x < v then none else cntLoop c (v * x) (s + n)
def cnt (c : List Nat) : Option Nat := cntLoop c 1 0
theorem cntLoop_exact : ∀ c v s r, cntLoop c v s = some r → r * (pf c * fact s) = v * fact (s + c.sum) := by
  intro c
  induction c with
  | nil => intro v s r h; simp [cntLoop] at h; subst h; simp [pf]
  | cons n c ih =>
    intro v s r h
    unfold cntLoop at h
    split at h
    · cases h
    · rename_i x hx
      split at h
      · cases h
      · have h1 := ih _ _ _ h
        have h2 := choose_exact (by omega) hx
        rw [show s + n - n = s from by omega] at h2
        have h3 : fact (s + n) = x * (fact n * fact s) := h2.symm
        rw [h3] at h1
        simp only [pf, List.sum_cons]
        rw [show s + (n + c.sum) = s + n + c.sum from by omega]
        have hx0 : 0 < x := (choose_bd hx).1
        refine Nat.eq_of_mul_eq_mul_right hx0 ?_
        calc r * (fact n * pf c * fact s) * x = r * (pf c * (x * (fact n * fact s))) := by simp only [Nat.mul_assoc, Nat.mul_left_comm, Nat.mul_comm]
          _ = v * x * fact (s + n + c.sum) := h1
          _ = v * fact (s + n + c.sum) * x := by simp only [Nat.mul_assoc, Nat.mul_left_comm, Nat.mul_comm]
theorem cnt_rows {c : List Nat} {r : Nat} (h : cnt c = some r) : r = (rows c.sum c).length := by
  have h1 := cntLoop_exact c 1 0 r h
  have h2 := rows_length c.sum c rfl
  simp only [fact, Nat.mul_one, Nat.one_mul, Nat.zero_add] at h1
  exact Nat.eq_of_mul_eq_mul_right (pf_pos c) (h1.trans h2.symm)
theorem choose_shrink {s s' n x : Nat} (hs : s' ≤ s) (h : choose (s + n) n = some x) : ∃ x', choose (s' + n) n = some x' ∧ x' ≤ x := by
  unfold choose at h ⊢
  rw [show s + n - n = s from by omega] at h
  rw [show s' + n - n = s' from by omega]
  exact chLoop_shrink s' s hs n 1 1 1 x (by omega) (Nat.le_refl _) h
theorem choose_less {s n x : Nat} (h : choose (s + (n + 1)) (n + 1) = some x) : ∃ x', choose (s + n) n = some x' ∧ x' ≤ x := by
  unfold choose at h ⊢
  rw [show s + (n + 1) - (n + 1) = s from by omega] at h
  rw [show s + n - n = s from by omega]
  exact chLoop_less s n 1 1 x (by omega) h
theorem cntLoop_shrink : ∀ c v v' s s' r, v' ≤ v → s' ≤ s → cntLoop c v s = some r → ∃ r', cntLoop c v' s' = some r' ∧ r' ≤ r := by
  intro c
  induction c with
  | nil => intro v v' s s' r hv _ h; simp [cntLoop] at h; subst h; exact ⟨v', rfl, hv⟩
  | cons n c ih =>
    intro v v' s s' r hv hs h
    unfold cntLoop at h ⊢
    split at h
    · cases h
    · rename_i x hx
      split at h
      · cases h
      · rename_i hc
        obtain ⟨x', hx', hxx⟩ := choose_shrink hs hx
        have hd : FAR / x ≤ FAR / x' := Nat.div_le_div_left hxx (choose_bd hx').1
        simp only [hx']
        rw [if_neg (by omega)]
        exact ih _ _ _ _ r (Nat.mul_le_mul hv hxx) (by omega) h
theorem cntLoop_dec : ∀ c i v s r, 0 < c.getD i 0 → cntLoop c v s = some r → ∃ r', cntLoop (dec c i) v s = some r' ∧ r' ≤ r := by
  intro c
  induction c with
  | nil => intro i v s r hi; simp at hi
  | cons n c ih =>
    intro i v s r hi h
    cases i with
    | zero =>
      simp only [List.getD_cons_zero] at hi
      obtain ⟨m, rfl⟩ : ∃ m, n = m + 1 := ⟨n - 1, by omega⟩
      have e : dec ((m + 1) :: c) 0 = m :: c := by simp [dec]
      rw [e]
      unfold cntLoop at h ⊢
      split at h
      · cases h
      · rename_i x hx
        split at h
        · cases h
        · rename_i hc
          obtain ⟨x', hx', hxx⟩ := choose_less hx
          have hd : FAR / x ≤ FAR / x' := Nat.div_le_div_left hxx (choose_bd hx').1
          simp only [hx']
          rw [if_neg (by omega)]
          exact cntLoop_shrink c _ _ _ _ r (Nat.mul_le_mul (Nat.le_refl _) hxx) (by omega) h
    | succ i =>
      simp only [List.getD_cons_succ] at hi
      have e : dec (n :: c) (i + 1) = n :: dec c i := by simp [dec]
      rw [e]
      unfold cntLoop at h ⊢
      split at h
      · cases h
      · rename_i x hx
        split at h
        · cases h
        · rename_i hc
          rw [if_neg hc]
          exact ih i _ _ r hi h
theorem cnt_dec {c : List Nat} {i r : Nat} (hi : 0 < c.getD i 0) (h : cnt c = some r) : ∃ r', cnt (dec c i) = some r' ∧ r' ≤ r := cntLoop_dec c i 1 0 r hi h
end Go.Proofs.Ytiapphhldedckaa.Ex
