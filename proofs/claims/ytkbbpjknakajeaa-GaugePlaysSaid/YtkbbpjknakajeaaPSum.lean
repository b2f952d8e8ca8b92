/- Two rows of gauges that hold the same are the same; their values' sum; a new set. -/
import Derived.Test.YtkbbpjknakajeaaPAdd
namespace Go.Proofs.Ytkbbpjknakajeaa
open Go Go.AE Go.RowKit
open Go.ChangeMaps (setBlock)
/-- a row that can be read -/
def Rd (w : World) (v : Value) (L : List (ByteArray × Int)) : Prop :=
  ∃ ao cap, v = .slice ao L.length cap ∧ ∀ k x, L[k]? = some x → ∃ g, ao = some ⟨g, 0, none⟩ ∧ g < w.heap.size ∧ w.cell? ⟨g, k * 2, none⟩ = some (.string x.1) ∧ w.cell? ⟨g, k * 2 + 1, none⟩ = some (.int .i64 x.2)
theorem Rd.below {w w' : World} {v : Value} {L : List (ByteArray × Int)} (h : Rd w v L) (hb : RowKit.Below w.heap.size w w') : Rd w' v L := by
  obtain ⟨ao, cap, h1, h2⟩ := h
  refine ⟨ao, cap, h1, fun k x hk => ?_⟩
  obtain ⟨g, a1, a2, a3, a4⟩ := h2 k x hk
  exact ⟨g, a1, Nat.lt_of_lt_of_le a2 hb.size, (hb.cell (p := ⟨g, k * 2, none⟩) a2).trans a3, (hb.cell (p := ⟨g, k * 2 + 1, none⟩) a2).trans a4⟩
theorem below_drewN' {B : Nat} {a w : World} (h : RowKit.Below B a w) (n : Nat) : RowKit.Below B a (w.drewN n) := ⟨h.os, h.tape, h.output, h.size, h.block⟩
theorem new_c (w : World) : Calls Try.prog 17 #[] w fun e w' => ∃ sb mb, e = .returned (.pointer (some ⟨sb, 0, none⟩)) ∧ w.heap.size ≤ sb ∧ w.heap.size ≤ mb ∧ sb ≠ mb ∧ sb < w'.heap.size ∧ mb < w'.heap.size ∧ w'.cell? ⟨sb, 0, none⟩ = some (.map (some mb)) ∧ w'.heap[mb]? = some (.map #[] 0) ∧ RowKit.Below w.heap.size w w' := by
  have hmk : (Instr.makeMap 70 none).run Try.prog w = .ok (.map (some w.heap.size)) (w.alloc (.map #[] 0)) := rfl
  go_enter Try.func17, Try.ntmps17
  go_wp2
  go_ret
  refine ⟨w.heap.size + 1, w.heap.size, rfl, ?_, ?_, ?_, ?_, ?_, ?_, ?_, ?_⟩
  · simp
  · exact Nat.le_refl _
  · simp
  · simp
  · simp; omega
  · simp
  · rw [Below.heap_alloc _ _ _ (by simp)]
    show (w.heap.push _)[w.heap.size]? = _
    rw [Array.getElem?_push_size]
  · exact ((Below.refl _ _).alloc (Nat.le_refl _) _).alloc (by simp) _
set_option maxHeartbeats 1600000 in
theorem same_any (a b : Value) (L : List (ByteArray × Int)) (w : World) (ha : Rd w a L) (hb : Rd w b L) (hL : L.length ≤ 1000) :
    Calls Try.prog 24 #[a, b] w fun e w' => e = .returned (.bool true) ∧ RowKit.Below w.heap.size w w' := by
  obtain ⟨ao, ca, rfl, fa⟩ := ha
  obtain ⟨bo, cb, rfl, fb⟩ := hb
  have HA := Lib.hid (And.intro fa fb)
  clear fa fb
  go_enter Try.func24, Try.ntmps24
  go_wp2
  go_loopw [13] (fun v wr => ∃ k : Nat, v = .int .i64 k ∧ k ≤ L.length ∧ Hid (RowKit.Below w.heap.size w wr)) (fun v _ => L.length - (intOf v).toNat)
  case atStart => exact ⟨0, rfl, Nat.zero_le _, Lib.hid (Below.refl _ _)⟩
  case round =>
    obtain ⟨k, rfl, hk, hB⟩ := hrel
    by_cases hlt : k < L.length
    · obtain ⟨x, hx⟩ : ∃ x, L[k]? = some x := ⟨L[k], List.getElem?_eq_getElem hlt⟩
      obtain ⟨ga, rfl, ga1, ca1, ca2⟩ := HA.out.1 k x hx
      obtain ⟨gb, rfl, gb1, cb1, cb2⟩ := HA.out.2 k x hx
      have h1 : (k : Int) < (L.length : Int) := by omega
      have h2 : (0 : Int) ≤ (k : Int) := by omega
      have ca1 := (hB.out.cell (p := ⟨ga, k * 2, none⟩) ga1).trans ca1
      have ca2 := (hB.out.cell (p := ⟨ga, k * 2 + 1, none⟩) ga1).trans ca2
      have cb1 := (hB.out.cell (p := ⟨gb, k * 2, none⟩) gb1).trans cb1
      have cb2 := (hB.out.cell (p := ⟨gb, k * 2 + 1, none⟩) gb1).trans cb2
      clear hx
      go_wp2_with fail
      go_quiet (fail)
      go_wp2
      go_roundw
      case rel => exact ⟨k + 1, by go_num, by omega, Lib.hid (below_drewN' hB.out _)⟩
      case measure => simp [intOf]; omega
    · obtain rfl : k = L.length := by omega
      go_wp2
      go_ret
      exact ⟨rfl, hB.out⟩
/-- the sum of values, as it is reckoned -/
def sumG : List (ByteArray × Int) → Int → Int
  | [], n => n
  | x :: l, n => sumG l (IntKind.i64.wrap (n + x.2))
theorem sumG_drop (L : List (ByteArray × Int)) (k : Nat) (x : ByteArray × Int) (h : L[k]? = some x) (n : Int) : sumG (L.drop k) n = sumG (L.drop (k + 1)) (IntKind.i64.wrap (n + x.2)) := by
  obtain ⟨hk, rfl⟩ := List.getElem?_eq_some_iff.1 h
  rw [List.drop_eq_getElem_cons hk]
  rfl
set_option maxHeartbeats 1600000 in
theorem sumR_any (rb : Nat) (v : Value) (L : List (ByteArray × Int)) (w : World) (hc : w.cell? ⟨rb, 0, none⟩ = some v) (hv : Rd w v L) (hL : L.length ≤ 1000) :
    Calls Try.prog 26 #[.pointer (some ⟨rb, 0, none⟩)] w fun e w' => e = .returned (.int .i64 (sumG L 0)) ∧ RowKit.Below w.heap.size w w' := by
  obtain ⟨ao, ca, rfl, fa⟩ := hv
  have HA := Lib.hid fa
  clear fa
  go_enter Try.func26, Try.ntmps26
  go_wp2
  go_loopw [3, 11] (fun s v wr => ∃ (k : Nat) (n : Int), v = .int .i64 k ∧ s = .int .i64 n ∧ k ≤ L.length ∧ Hid (sumG (L.drop k) n = sumG L 0) ∧ Hid (RowKit.Below w.heap.size w wr)) (fun _ v _ => L.length - (intOf v).toNat)
  case atStart => exact ⟨0, 0, rfl, rfl, Nat.zero_le _, Lib.hid rfl, Lib.hid (Below.refl _ _)⟩
  case round =>
    obtain ⟨k, n, rfl, rfl, hk, hS, hB⟩ := hrel
    by_cases hlt : k < L.length
    · obtain ⟨x, hx⟩ : ∃ x, L[k]? = some x := ⟨L[k], List.getElem?_eq_getElem hlt⟩
      obtain ⟨ga, rfl, ga1, ca1, ca2⟩ := HA.out k x hx
      have h1 : (k : Int) < (L.length : Int) := by omega
      have h2 : (0 : Int) ≤ (k : Int) := by omega
      have ca1 := (hB.out.cell (p := ⟨ga, k * 2, none⟩) ga1).trans ca1
      have ca2 := (hB.out.cell (p := ⟨ga, k * 2 + 1, none⟩) ga1).trans ca2
      have hs1 := sumG_drop L k x hx n
      rw [hS.out] at hs1
      obtain ⟨m, hm⟩ : ∃ m, IntKind.i64.wrap (n + x.2) = m := ⟨_, rfl⟩
      rw [hm] at hs1
      have HS := Lib.hid hs1.symm
      clear hx hs1
      go_wp2
      go_roundw
      case rel => exact ⟨k + 1, m, by go_num, by rw [← hm], by omega, HS, Lib.hid (hB.out.alloc hB.out.size _)⟩
      case measure => simp [intOf]; omega
    · obtain rfl : k = L.length := by omega
      have HS := hS.out
      rw [List.drop_length] at HS
      have hn : n = sumG L 0 := HS
      clear hS
      subst hn
      clear HS
      go_wp2
      go_ret
      exact ⟨by first | rfl | rw [hn], hB.out⟩
end Go.Proofs.Ytkbbpjknakajeaa
