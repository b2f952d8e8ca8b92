/- Is a call odd; is any of them? -/
import Derived.Test.YtkbbpjknakajeaaTFind
namespace Go.Proofs.Ytkbbpjknakajeaa.Li
open Go.RowKit Go.Shelf Go.Sort
def Odd (x : QOp) : Prop := x.to < x.fr ∨ (x.put = true ∧ x.value < 0)
instance (x : QOp) : Decidable (Odd x) := by unfold Odd; infer_instance
set_option maxHeartbeats 1600000 in
theorem odd_any (x : QOp) (w : World) : Calls Try.prog 29 #[x.val] w (Says (Odd x) w) := by
  obtain ⟨pp, vv, ff, tt⟩ := x
  unfold QOp.val
  dsimp only
  by_cases h1 : tt < ff
  · have HO := Lib.hid (show Odd ⟨pp, vv, ff, tt⟩ from .inl h1)
    go_enter Try.func29, Try.ntmps29
    go_wp2
    go_ret
    exact ⟨true, rfl, ⟨fun _ => HO.out, fun _ => rfl⟩, (Below.refl _ _).alloc (Nat.le_refl _) _⟩
  · have hd : decide (tt < ff) = false := by simpa using h1
    cases pp with
    | true =>
      by_cases h2 : vv < 0
      · have HO := Lib.hid (show Odd ⟨true, vv, ff, tt⟩ from .inr ⟨rfl, h2⟩)
        go_enter Try.func29, Try.ntmps29
        go_wp2
        go_ret
        exact ⟨true, rfl, ⟨fun _ => HO.out, fun _ => rfl⟩, (Below.refl _ _).alloc (Nat.le_refl _) _⟩
      · have hd2 : decide (vv < 0) = false := by simpa using h2
        have HO := Lib.hid (show ¬ Odd ⟨true, vv, ff, tt⟩ from fun h => h.elim h1 (fun h => h2 h.2))
        go_enter Try.func29, Try.ntmps29
        go_wp2
        go_ret
        exact ⟨false, rfl, ⟨fun h => absurd h (by decide), fun h => absurd h HO.out⟩, (Below.refl _ _).alloc (Nat.le_refl _) _⟩
    | false =>
      have HO := Lib.hid (show ¬ Odd ⟨false, vv, ff, tt⟩ from fun h => h.elim h1 (fun h => by cases h.1))
      go_enter Try.func29, Try.ntmps29
      go_wp2
      go_ret
      exact ⟨false, rfl, ⟨fun h => absurd h (by decide), fun h => absurd h HO.out⟩, (Below.refl _ _).alloc (Nat.le_refl _) _⟩
def AnyOdd (l : Array QOp) : Prop := ∃ i, i < l.size ∧ Odd l[i]!
set_option maxHeartbeats 1600000 in
theorem index_any (al : Option Addr) (cl : Nat) (l : Array QOp) (w : World) (hq : SliceOfQ w al l) (hn : l.size ≤ 1000) :
    Calls Try.prog 46 #[.slice al l.size cl, .func (.func 29) #[] #[]] w fun e w' => ∃ z : Int, e = .returned (.int .i64 z) ∧ (0 ≤ z ↔ AnyOdd l) ∧ Below w.heap.size w w' := by
  have HQ := Lib.hid hq
  clear hq
  go_enter Try.func46, Try.ntmps46
  go_wp2
  go_loopw [8] (fun t wr => ∃ k : Nat, k ≤ l.size ∧ t = .int .i64 k ∧ Hid (Below w.heap.size w wr) ∧ Hid (∀ j : Nat, j < k → ¬ Odd l[j]!)) (fun t _ => l.size - (intOf t).toNat)
  case atStart => exact ⟨0, Nat.zero_le _, rfl, Lib.hid (Below.refl _ _), Lib.hid (fun j hj => by omega)⟩
  case round =>
    obtain ⟨k, hk, rfl, hB, hall⟩ := hrel
    by_cases hlt : k < l.size
    · obtain ⟨bl, ol, rfl, hbl, hr⟩ : ∃ b off, al = some ⟨b, off, none⟩ ∧ b < w.heap.size ∧ ReadsQ w b off l := by
        rcases HQ.out with h | h
        · omega
        · exact h
      obtain ⟨k0, k1, k2, k3⟩ := hr.below hbl hB.out k hlt
      have h1 : (k : Int) < (l.size : Int) := by omega
      have h2 : (0 : Int) ≤ (k : Int) := by omega
      obtain ⟨⟨pp, vv, ff, tt⟩, hx⟩ : ∃ x, l[k]! = x := ⟨_, rfl⟩
      rw [hx] at k0 k1 k2 k3
      dsimp only at k0 k1 k2 k3
      have c29 := odd_any ⟨pp, vv, ff, tt⟩ wr
      unfold QOp.val at c29
      dsimp only at c29
      have HX := Lib.hid hx
      clear hx hr
      go_wp2_with (go_at_call 29; refine c29.mono ?_; clear c29; rintro e w2 ⟨r, rfl, hr, hB2⟩; have HR := Lib.hid (And.intro hr hB2); clear hr hB2; cases r)
      · go_roundw
        case rel =>
          refine ⟨k + 1, by omega, by go_num, Lib.hid (hB.out.trans (HR.out.2.mono hB.out.size)), Lib.hid (fun j hj => ?_)⟩
          rcases Nat.lt_or_ge j k with h | h
          · exact hall.out j h
          · obtain rfl : j = k := by omega
            rw [HX.out]
            intro ho
            have := HR.out.1.2 ho
            cases this
        case measure => simp [intOf]; omega
      · go_ret
        exact ⟨k, rfl, ⟨fun _ => ⟨k, hlt, by rw [HX.out]; have := HR.out.1; simpa using this⟩, fun _ => h2⟩, hB.out.trans (HR.out.2.mono hB.out.size)⟩
    · obtain rfl : k = l.size := by omega
      go_wp2
      go_ret
      refine ⟨-1, rfl, ⟨fun h => by omega, fun ⟨j, hj, ho⟩ => absurd ho (hall.out j hj)⟩, hB.out⟩
theorem contains_any (al : Option Addr) (cl : Nat) (l : Array QOp) (w : World) (hq : SliceOfQ w al l) (hn : l.size ≤ 1000) :
    Calls Try.prog 30 #[.slice al l.size cl, .func (.func 29) #[] #[]] w (Says (AnyOdd l) w) := by
  have c46 := index_any al cl l w hq hn
  clear hq
  go_enter Try.func30, Try.ntmps30
  go_wp2_with (go_at_call 46; refine c46.mono ?_; clear c46; rintro e w2 ⟨z, rfl, hz, hB⟩; have HZ := Lib.hid (And.intro hz hB); clear hz hB)
  go_ret
  exact ⟨decide (z ≥ 0), rfl, by rw [decide_eq_true_iff]; exact HZ.out.1, HZ.out.2⟩
end Go.Proofs.Ytkbbpjknakajeaa.Li
