/- A log's numbers in bytes, at each number of subscribers: the program's and the document's, by runs. -/
import Derived.Test.YtndgbfpcnkmihaaGreatDoorSy1
import Derived.Test.YtndgbfpcnkmihaaGreatDoorNumA
namespace Go.Proofs.YtndgbfpcnkmihaaGreatDoor.Sy
open Go Go.RowKit Go.AS Go.Base Go.Proofs.YtndgbfpcnkmihaaGreatDoor.Ba
set_option maxRecDepth 100000
noncomputable section
theorem there_yes (l : Lg) (hl : l.ok) {ba : Option Addr} {bn bc : Nat} (hbn : bn < 4611686018427387904) (hth : l.there bn) (w : World) : Calls Tryz.prog 18 #[.slice ba bn bc, l.val] w fun e w' => e = .returned (.bool true) ∧ Below w.heap.size w w' :=
  there0 l hl.wf ba bn bc hbn hl (by have := hth.2; omega) w
theorem thereR_yes (l : Lg) (hl : l.ok) {ba : Option Addr} {bn bc : Nat} (hbn : bn < 4611686018427387904) (hth : l.there bn) (w : World) : Calls Tryz.prog 25 #[.slice ba bn bc, l.val] w fun e w' => e = .returned (.bool true) ∧ Below w.heap.size w w' :=
  thereR0 l hl.wf ba bn bc hbn hl (by have := hth.2; omega) w
theorem there_not (l : Lg) (hw : l.wf) {ba : Option Addr} {bn bc : Nat} (hbn : bn < 4611686018427387904) (hth : ¬ l.there bn) (w : World) : Calls Tryz.prog 18 #[.slice ba bn bc, l.val] w fun e w' => e = .returned (.bool false) ∧ Below w.heap.size w w' := by
  by_cases h : l.ok
  · exact there1 l hw ba bn bc hbn h (fun h2 => hth ⟨h, by omega⟩) w
  · exact there2 l hw ba bn bc hbn h w
theorem thereR_not (l : Lg) (hw : l.wf) {ba : Option Addr} {bn bc : Nat} (hbn : bn < 4611686018427387904) (hth : ¬ l.there bn) (w : World) : Calls Tryz.prog 25 #[.slice ba bn bc, l.val] w fun e w' => e = .returned (.bool false) ∧ Below w.heap.size w w' := by
  by_cases h : l.ok
  · exact thereR1 l hw ba bn bc hbn h (fun h2 => hth ⟨h, by omega⟩) w
  · exact thereR2 l hw ba bn bc hbn h w
theorem numAtI {B : Nat → Nat} {bb bo bn bc : Nat} (at_ : Int) (m : Nat) (hB : ∀ j, B j < 256) (hcap : bn ≤ bc) (hbn : bn < 4611686018427387904) (h0 : 0 ≤ at_) (hm : 0 < m ∧ m ≤ 8) (ham : at_ + m ≤ bn) (W : World) (hW : ReadsB W bb bo bn B) :
    Calls Tryz.prog 19 #[.slice (some ⟨bb, bo, none⟩) bn bc, .int .i64 at_, .int .i64 m] W fun e w' => e = .returned (.int .u64 ((numF B at_.toNat m : Nat) : Int)) ∧ Below W.heap.size W w' := by
  obtain ⟨a, rfl⟩ := Int.eq_ofNat_of_zero_le h0
  refine (num_at bb bo bn bc B hB hcap hbn a m hm.2 hm.1 (by omega) W hW).mono ?_
  rintro e w' ⟨rfl, rfl⟩
  exact ⟨rfl, Below.refl _ _⟩
theorem numRI {B : Nat → Nat} {bb bo bn n' c' : Nat} (lo : Int) (m : Nat) (hB : ∀ j, B j < 256) (hbn : bn < 4611686018427387904) (_h0 : 0 ≤ lo) (hm : m = min n' 8) (ham : lo.toNat + n' ≤ bn) (W : World) (hW : ReadsB W bb bo bn B) :
    Calls Tryz.prog 27 #[.slice (some ⟨bb, bo + lo.toNat, none⟩) n' c'] W fun e w' => e = .returned (.int .u64 ((numF B lo.toNat m : Nat) : Int)) ∧ Below W.heap.size W w' := by
  have := numberR_some bb (bo + lo.toNat) n' c' (fun j => B (lo.toNat + j)) (fun j => hB _) m hm (by omega) W (hW.drop lo.toNat n' ham)
  rw [numF_at] at this
  refine this.mono ?_
  rintro e w' ⟨rfl, rfl⟩
  exact ⟨rfl, Below.refl _ _⟩
theorem tailAtC (l : Lg) (h : l.ok) (i r : Int) (h0 : 0 ≤ i) (h1 : i < 3) (hr : l.base + 3 * l.term + i * 8 = r) (W : World) : Calls Tryz.prog 23 #[l.val, .int .i64 i] W fun e w' => e = .returned (.int .i64 r) ∧ Below W.heap.size W w' := by
  subst hr; exact tailAt_any l h i h0 h1 W
theorem subAtC (l : Lg) (h : l.ok) (i r : Int) (h0 : 0 ≤ i) (h1 : i < l.subs) (hr : l.base + 3 * l.term + 48 + i * 8 = r) (W : World) : Calls Tryz.prog 24 #[l.val, .int .i64 i] W fun e w' => e = .returned (.int .i64 r) ∧ Below W.heap.size W w' := by
  subst hr; exact subAt_any l h i h0 h1 W
/-- what a log's numbers are handed back as: six numbers and a row -/
theorem ran_nums [Rho] {w w' : World} {σ : Sg} {i n c : Nat} {e : TypeId} {row : List Value} {a0 a1 a2 a3 a4 a5 v' b0 b1 b2 b3 b4 b5 : Value} {row' : List Value} (h : Ran [] [i] [some (e, row)] (.tuple #[.agg #[a0, a1, a2, a3, a4, a5, .slice (some ⟨i, 0, none⟩) n c], .int .i64 0]) w v' σ w')
    (h0 : (okB a0 && okB a1 && okB a2 && okB a3 && okB a4 && okB a5 && row.all okB) = true) (e0 : conc a0 = b0) (e1 : conc a1 = b1) (e2 : conc a2 = b2) (e3 : conc a3 = b3) (e4 : conc a4 = b4) (e5 : conc a5 = b5) (er : row.map conc = row') :
    ∃ g o cap, v' = .tuple #[.agg #[b0, b1, b2, b3, b4, b5, .slice (some ⟨g, o, none⟩) n cap], .int .i64 0] ∧ w.heap.size ≤ g ∧ w'.rangeAt g o row' ∧ Below w.heap.size w w' := by
  subst e0 e1 e2 e3 e4 e5 er
  simp only [Bool.and_eq_true] at h0
  obtain ⟨⟨⟨⟨⟨⟨k0, k1⟩, k2⟩, k3⟩, k4⟩, k5⟩, kr⟩ := h0
  obtain ⟨t, rfl, ht⟩ := h.val.tuple_inv
  obtain ⟨x, l', hx, hat, hvr⟩ := h.lies 0 i e row rfl rfl
  have e1 := hvr.conc (fun a ha => okB_ok (List.all_eq_true.1 kr a ha))
  obtain ⟨u0, u1, hu⟩ : ∃ u0 u1, t.toList = [u0, u1] := by
    match hl : t.toList, ht.1 with
    | [u0, u1], _ => exact ⟨u0, u1, rfl⟩
    | [], h => simp at h
    | [_], h => simp at h
    | _ :: _ :: _ :: _, h => simp at h
  rw [hu] at ht
  obtain ⟨s, hs, hsl⟩ := ht.head.agg_inv
  have hz := ht.tail.head.simple_inv rfl
  obtain ⟨q0, q1, q2, q3, q4, q5, q6, hq⟩ : ∃ q0 q1 q2 q3 q4 q5 q6, s.toList = [q0, q1, q2, q3, q4, q5, q6] := by
    match hl : s.toList, hsl.1 with
    | [q0, q1, q2, q3, q4, q5, q6], _ => exact ⟨q0, q1, q2, q3, q4, q5, q6, rfl⟩
    | [], h => simp at h
    | [_], h => simp at h
    | [_, _], h => simp at h
    | [_, _, _], h => simp at h
    | [_, _, _, _], h => simp at h
    | [_, _, _, _, _], h => simp at h
    | [_, _, _, _, _, _], h => simp at h
    | _ :: _ :: _ :: _ :: _ :: _ :: _ :: _ :: _, h => simp at h
  rw [hq] at hsl
  have r0 := hsl.head.conc (okB_ok k0)
  have r1 := hsl.tail.head.conc (okB_ok k1)
  have r2 := hsl.tail.tail.head.conc (okB_ok k2)
  have r3 := hsl.tail.tail.tail.head.conc (okB_ok k3)
  have r4 := hsl.tail.tail.tail.tail.head.conc (okB_ok k4)
  have r5 := hsl.tail.tail.tail.tail.tail.head.conc (okB_ok k5)
  have r6 := hsl.tail.tail.tail.tail.tail.tail.head
  rcases r6.slice_inv with ⟨h1, _⟩ | ⟨i', o', y, c', h1, h2, hy, _, _⟩
  · cases h1
  cases h1
  rw [hx] at hy
  cases hy
  refine ⟨x.b, x.sh, c', ?_, h.fresh 0 i e row x rfl rfl (Nat.zero_le _) hx, ?_, ⟨h.left.os, h.left.tape, h.left.output, h.left.size, fun b hb => h.left.block b hb (fun q hq => by cases hq)⟩⟩
  · have e7 : t = #[u0, u1] := Array.ext' (by rw [hu])
    have e8 : s = #[q0, q1, q2, q3, q4, q5, q6] := Array.ext' (by rw [hq])
    rw [e7, hs, e8, hz, r0, r1, r2, r3, r4, r5, h2]
    rfl
  · intro j v hv
    rw [← e1] at hv
    exact hat.cell j v hv
end
end Go.Proofs.YtndgbfpcnkmihaaGreatDoor.Sy
