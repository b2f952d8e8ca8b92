/- A take done by a queue; a call done by a queue, whatever it is. -/
import Derived.Test.YtkbbpjknakajeaaStep
namespace Go.Proofs.Ytkbbpjknakajeaa.Li
open Go.RowKit Go.Shelf Go.Sort
/-- a call done by a queue: what is left; none: a queue does not -/
def stepA (q : Array Int) (x : QOp) : Option (Array Int) :=
  if x.put then some (q.push x.value) else if x.value < 0 then (if q.size = 0 then some q else none) else if q.size = 0 then none else if q[0]! = x.value then some (q.extract 1 q.size) else none
/-- what step hands back when it did not -/
def Refused (w : World) (e : Ending) (w' : World) : Prop := ∃ v, e = .returned (.tuple #[v, .bool false]) ∧ Below w.heap.size w w'

set_option maxHeartbeats 3200000 in
set_option maxRecDepth 1000000 in
theorem step_neg0 (a : Option Addr) (cap : Nat) (v f t : Int) (hv : v < 0) (w : World) :
    Calls Try.prog 35 #[.slice a 0 cap, QOp.val ⟨false, v, f, t⟩] w (fun e w' => e = .returned (.tuple #[.slice a 0 cap, .bool true]) ∧ Below w.heap.size w w') := by
  unfold QOp.val
  go_enter Try.func35, Try.ntmps35
  go_wp2
  go_ret2
  exact ⟨rfl, (Below.refl _ w).alloc (Nat.le_refl _) _⟩
set_option maxHeartbeats 3200000 in
set_option maxRecDepth 1000000 in
theorem step_neg1 (a : Option Addr) (n cap : Nat) (v f t : Int) (hv : v < 0) (h0 : 0 < n) (hs : n ≤ 1000) (w : World) :
    Calls Try.prog 35 #[.slice a n cap, QOp.val ⟨false, v, f, t⟩] w (Refused w) := by
  have h1 : ¬ n = 0 := by omega
  have hd : ((n : Int) == 0) = false := by simp; omega
  unfold QOp.val
  go_enter Try.func35, Try.ntmps35
  go_wp2
  go_ret2
  exact ⟨_, rfl, (Below.refl _ w).alloc (Nat.le_refl _) _⟩

set_option maxHeartbeats 3200000 in
set_option maxRecDepth 1000000 in
theorem step_empty (a : Option Addr) (cap : Nat) (v f t : Int) (hv : ¬ v < 0) (w : World) :
    Calls Try.prog 35 #[.slice a 0 cap, QOp.val ⟨false, v, f, t⟩] w (Refused w) := by
  have hd : decide (v < 0) = false := by simpa using hv
  unfold QOp.val
  go_enter Try.func35, Try.ntmps35
  go_wp2_with fail
  go_quiet (fail)
  go_wp2
  go_ret2
  exact ⟨_, rfl, below_drewN ((Below.refl _ w).alloc (Nat.le_refl _) _) _⟩
set_option maxHeartbeats 3200000 in
set_option maxRecDepth 1000000 in
theorem step_other (b off n cap : Nat) (y v f t : Int) (hv : ¬ v < 0) (h0 : 0 < n) (hs : n ≤ 1000) (hy : y ≠ v) (w : World) (hb : b < w.heap.size) (hc : w.cell? ⟨b, off, none⟩ = some (.int .i64 y)) :
    Calls Try.prog 35 #[.slice (some ⟨b, off, none⟩) n cap, QOp.val ⟨false, v, f, t⟩] w (Refused w) := by
  have hd : decide (v < 0) = false := by simpa using hv
  have h1 : ¬ n = 0 := by omega
  have h2 : (0 : Int) < (n : Int) := by omega
  have hd2 : decide ((n : Int) = 0) = false := by simpa using (by omega : ¬ (n : Int) = 0)
  have hd3 : (y != v) = true := by simpa using hy
  have hd4 : ((n : Int) == 0) = false := by simp; omega
  have hc2 : (w.alloc (.cells #[.bool false, .int .i64 v, .int .i64 f, .int .i64 t] 58)).cell? ⟨b, off, none⟩ = some (.int .i64 y) :=
    (((Below.refl w.heap.size w).alloc (Nat.le_refl _) _).cell (p := ⟨b, off, none⟩) hb).trans hc
  unfold QOp.val
  go_enter Try.func35, Try.ntmps35
  go_wp2_with fail
  go_quiet (fail)
  go_wp2
  go_ret2
  exact ⟨_, rfl, below_drewN ((Below.refl _ w).alloc (Nat.le_refl _) _) _⟩
set_option maxHeartbeats 3200000 in
set_option maxRecDepth 1000000 in
theorem step_take (b off n cap : Nat) (v f t : Int) (hv : ¬ v < 0) (h0 : 0 < n) (hs : n ≤ 1000) (hcap : n ≤ cap) (w : World) (hb : b < w.heap.size) (hc : w.cell? ⟨b, off, none⟩ = some (.int .i64 v)) :
    Calls Try.prog 35 #[.slice (some ⟨b, off, none⟩) n cap, QOp.val ⟨false, v, f, t⟩] w (fun e w' => (∃ o, (1 < n → o = off + 1) ∧ e = .returned (.tuple #[.slice (some ⟨b, o, none⟩) (n - 1) (cap - 1), .bool true])) ∧ Below w.heap.size w w') := by
  have hd : decide (v < 0) = false := by simpa using hv
  have h1 : ¬ n = 0 := by omega
  have h2 : (0 : Int) < (n : Int) := by omega
  have h3 : 1 ≤ n := h0
  have hd4 : ((n : Int) == 0) = false := by simp; omega
  have hc2 : (w.alloc (.cells #[.bool false, .int .i64 v, .int .i64 f, .int .i64 t] 58)).cell? ⟨b, off, none⟩ = some (.int .i64 v) :=
    (((Below.refl w.heap.size w).alloc (Nat.le_refl _) _).cell (p := ⟨b, off, none⟩) hb).trans hc
  unfold QOp.val
  go_enter Try.func35, Try.ntmps35
  go_wp2_with fail
  go_quiet (fail)
  by_cases hc1 : cap = 1
  · obtain rfl : n = 1 := by omega
    subst hc1
    go_wp2
    go_ret2
    exact ⟨⟨off, fun h => by omega, rfl⟩, below_drewN ((Below.refl _ w).alloc (Nat.le_refl _) _) _⟩
  · go_wp2
    go_ret2
    exact ⟨⟨off + 1, fun _ => rfl, rfl⟩, below_drewN ((Below.refl _ w).alloc (Nat.le_refl _) _) _⟩

/-- what step hands back -/
def StepRes (w : World) (o : Option (Array Int)) (e : Ending) (w' : World) : Prop :=
  match o with
  | some q' => Stepped w q' e w'
  | none => Refused w e w'
theorem step_any (a : Option Addr) (cap : Nat) (q : Array Int) (x : QOp) (hs : q.size ≤ 1000) (w : World) (hg : Good w a cap q) :
    Calls Try.prog 35 #[.slice a q.size cap, x.val] w (StepRes w (stepA q x)) := by
  obtain ⟨p, v, f, t⟩ := x
  cases p with
  | true =>
    have e : stepA q ⟨true, v, f, t⟩ = some (q.push v) := by simp [stepA]
    rw [e]
    rcases hg with ⟨rfl, rfl, rfl⟩ | ⟨b, off, rfl, hc, hb, hr⟩
    · exact step_put_nil v f t w
    · exact step_put_some b off cap q v f t hs w hc hb hr
  | false =>
    by_cases hv : v < 0
    · by_cases h0 : q.size = 0
      · have e : stepA q ⟨false, v, f, t⟩ = some q := by simp [stepA, hv, h0]
        rw [e, h0]
        refine (step_neg0 a cap v f t hv w).mono ?_
        rintro e w' ⟨rfl, hb⟩
        exact ⟨a, cap, by rw [h0], hg.below hb, hb⟩
      · have e : stepA q ⟨false, v, f, t⟩ = none := by simp [stepA, hv, h0]
        rw [e]
        exact step_neg1 a q.size cap v f t hv (by omega) hs w
    · by_cases h0 : q.size = 0
      · have e : stepA q ⟨false, v, f, t⟩ = none := by simp [stepA, hv, h0]
        rw [e, h0]
        exact step_empty a cap v f t hv w
      · rcases hg with ⟨rfl, rfl, rfl⟩ | ⟨b, off, rfl, hc, hb, hr⟩
        · exact absurd rfl h0
        · have c0 := hr 0 (by omega)
          rw [Nat.add_zero] at c0
          by_cases hy : q[0]! = v
          · have e : stepA q ⟨false, v, f, t⟩ = some (q.extract 1 q.size) := by simp [stepA, hv, h0, hy]
            rw [e]
            rw [hy] at c0
            refine (step_take b off q.size cap v f t hv (by omega) hs hc w hb c0).mono ?_
            rintro e w' ⟨⟨o, ho, rfl⟩, hB⟩
            refine ⟨some ⟨b, o, none⟩, cap - 1, by simp, .inr ⟨b, o, rfl, by simp; omega, Nat.lt_of_lt_of_le hb hB.size, ?_⟩, hB⟩
            intro j hj
            simp only [Array.size_extract] at hj
            rw [ho (by omega)]
            have := (hr.below hb hB) (1 + j) (by omega)
            rw [getElem!_pos q _ (by omega)] at this
            rw [getElem!_pos _ j (by simp; omega), Nat.add_assoc, this]
            simp
          · have e : stepA q ⟨false, v, f, t⟩ = none := by simp [stepA, hv, h0, hy]
            rw [e]
            exact step_other b off q.size cap q[0]! v f t hv (by omega) hs hy w hb c0

end Go.Proofs.Ytkbbpjknakajeaa.Li
