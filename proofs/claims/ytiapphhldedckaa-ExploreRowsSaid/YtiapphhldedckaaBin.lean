/- Binomials by factorials. Plain Lean. -/
import Derived.Test.YtiapphhldedckaaRowsPlain2
namespace Go.Proofs.Ytiapphhldedckaa.Ex
def bin : Nat → Nat → Nat
  | _, 0 => 1
  | 0, _ + 1 => 0
  | n + 1, k + 1 => bin n k + bin n (k + 1)
theorem bin_zero : ∀ n k, n < k → bin n k = 0 := by
  intro n
  induction n with
  | zero => intro k h; match k, h with | k + 1, _ => rfl
  | succ n ih => intro k h; match k, h with | k + 1, h => simp only [bin]; rw [ih k (by omega), ih (k + 1) (by omega)]
theorem bin_fact : ∀ n b i, b + i = n → bin n i * (fact i * fact b) = fact n := by
  intro n
  induction n with
  | zero =>
    intro b i h
    obtain rfl : b = 0 := by omega
    obtain rfl : i = 0 := by omega
    rfl
  | succ n ih =>
    intro b i h
    match b, i with
    | b, 0 => obtain rfl : b = n + 1 := by omega
              simp [bin, fact]
    | 0, i + 1 =>
      obtain rfl : i = n := by omega
      have h1 := ih 0 i (by omega)
      simp only [bin, bin_zero i (i + 1) (by omega)]
      simp only [fact, Nat.mul_one, Nat.add_zero] at h1 ⊢
      rw [Nat.mul_left_comm, h1]
    | b + 1, i + 1 =>
      have h1 := ih (b + 1) i (by omega)
      have h2 := ih b (i + 1) (by omega)
      simp only [bin, Nat.add_mul]
      have e1 : bin n i * (fact (i + 1) * fact (b + 1)) = (i + 1) * fact n := by rw [← h1, fact]; simp only [Nat.mul_assoc, Nat.mul_left_comm, Nat.mul_comm]
      have e2 : bin n (i + 1) * (fact (i + 1) * fact (b + 1)) = (b + 1) * fact n := by rw [← h2, fact.eq_2 b]; simp only [Nat.mul_assoc, Nat.mul_left_comm, Nat.mul_comm]
      rw [e1, e2, ← Nat.add_mul, show i + 1 + (b + 1) = n + 1 from by omega, fact]
/-- v times (b + i + 1) is a multiple of i + 1 -/
theorem step_dvd {b i v : Nat} (h : v * (fact i * fact b) = fact (b + i)) : (i + 1) ∣ v * (b + i + 1) := by
  refine ⟨bin (b + i + 1) (i + 1), ?_⟩
  have h1 := bin_fact (b + i + 1) b (i + 1) (by omega)
  have hp : 0 < fact i * fact b := Nat.mul_pos (fact_pos i) (fact_pos b)
  refine Nat.eq_of_mul_eq_mul_right hp ?_
  have e1 : v * (b + i + 1) * (fact i * fact b) = fact (b + i + 1) := by rw [Nat.mul_right_comm, h, fact, Nat.mul_comm]
  rw [e1, ← h1, fact.eq_2 i]
  simp only [Nat.mul_assoc, Nat.mul_left_comm, Nat.mul_comm]
end Go.Proofs.Ytiapphhldedckaa.Ex
