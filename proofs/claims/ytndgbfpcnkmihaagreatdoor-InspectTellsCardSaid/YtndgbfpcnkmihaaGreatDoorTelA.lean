/- The law on what stands in bytes: its parts joined. -/
import Derived.Test.YtndgbfpcnkmihaaGreatDoorFrD
import Derived.Test.YtndgbfpcnkmihaaGreatDoorSqM
import Derived.Test.YtndgbfpcnkmihaaGreatDoorSy5
import Derived.Test.YtndgbfpcnkmihaaGreatDoorSy4
import Derived.Test.YtndgbfpcnkmihaaGreatDoorFillA
namespace Go.Proofs.YtndgbfpcnkmihaaGreatDoor.Sy
open Go Go.RowKit Go.Lib Go.Base Go.Proofs.YtndgbfpcnkmihaaGreatDoor.Ba Go.Proofs.YtndgbfpcnkmihaaGreatDoor
theorem nums_both (l : Lg) (hl : l.ok) (B : Nat → Nat) (hB : ∀ j, B j < 256) (bb bo bn bc : Nat) (hcap : bn ≤ bc) (hbn : bn < 4611686018427387904) (hth : l.there bn) :
    ∃ (a0 a1 a2 a3 a4 a5 : Int) (vs : List Int), (1 ≤ vs.length ∧ vs.length ≤ 8) ∧ NumsC 6 l B bb bo bn bc a0 a1 a2 a3 a4 a5 vs ∧ NumsC 7 l B bb bo bn bc a0 a1 a2 a3 a4 a5 vs := by
  refine ⟨_, _, _, _, _, _, vsL l B, ?_, nums_all l hl B hB bb bo bn bc hcap hbn hth, numsR_all l hl B hB bb bo bn bc hcap hbn hth⟩
  have hlb := Lg.ok.bounds hl
  have hs : l.subs.toNat = 1 ∨ l.subs.toNat = 2 ∨ l.subs.toNat = 3 ∨ l.subs.toNat = 4 ∨ l.subs.toNat = 5 ∨ l.subs.toNat = 6 ∨ l.subs.toNat = 7 ∨ l.subs.toNat = 8 := by omega
  unfold vsL
  rcases hs with h | h | h | h | h | h | h | h <;> (rw [h]; exact ⟨by simp, by simp⟩)
/-- what is handed back as a log's numbers, where it lies -/
structure ViewAt (W : World) (g o : Nat) (vs : List Int) : Prop where
  lt : g < W.heap.size
  at_ : W.rangeAt g o (vs.map fun v => .int .i64 v)
theorem ViewAt.mk' {W : World} {g o : Nat} {vs : List Int} (h1 : 1 ≤ vs.length) (h : W.rangeAt g o (vs.map fun v => .int .i64 v)) : ViewAt W g o vs := by
  obtain ⟨x, xs, rfl⟩ : ∃ x xs, vs = x :: xs := by cases vs with | nil => simp at h1 | cons x xs => exact ⟨x, xs, rfl⟩
  exact ⟨World.block_lt_of_cell? W _ (h 0 _ rfl), h⟩
theorem ViewAt.below {W W' : World} {g o : Nat} {vs : List Int} (h : ViewAt W g o vs) (hb : Below W.heap.size W W') : ViewAt W' g o vs :=
  ⟨Nat.lt_of_lt_of_le h.lt hb.size, fun j v hv => (hb.cell (p := ⟨g, o + j, none⟩) h.lt).trans (h.at_ j v hv)⟩
theorem same_view (a0 a1 a2 a3 a4 a5 : Int) (vs : List Int) (hv : 1 ≤ vs.length ∧ vs.length ≤ 8) (g1 o1 c1 g2 o2 c2 : Nat) (W : World) (h1 : ViewAt W g1 o1 vs) (h2 : ViewAt W g2 o2 vs) :
    Calls Tryz.prog 10 #[.agg #[.int .u32 a0, .int .u64 a1, .int .u64 a2, .int .u64 a3, .int .i64 a4, .int .i64 a5, .slice (some ⟨g1, o1, none⟩) vs.length c1], .agg #[.int .u32 a0, .int .u64 a1, .int .u64 a2, .int .u64 a3, .int .i64 a4, .int .i64 a5, .slice (some ⟨g2, o2, none⟩) vs.length c2]] W fun e w' => e = .returned (.bool true) ∧ Below W.heap.size W w' := by
  match vs, hv, h1, h2 with
  | [], hv, _, _ => simp at hv
  | [v0], _, h1, h2 => exact sameV1_0 a0 a1 a2 a3 a4 a5 v0 g1 o1 c1 g2 o2 c2 W h1.lt h2.lt h1.at_ h2.at_ W rfl
  | [v0, v1], _, h1, h2 => exact sameV2_0 a0 a1 a2 a3 a4 a5 v0 v1 g1 o1 c1 g2 o2 c2 W h1.lt h2.lt h1.at_ h2.at_ W rfl
  | [v0, v1, v2], _, h1, h2 => exact sameV3_0 a0 a1 a2 a3 a4 a5 v0 v1 v2 g1 o1 c1 g2 o2 c2 W h1.lt h2.lt h1.at_ h2.at_ W rfl
  | [v0, v1, v2, v3], _, h1, h2 => exact sameV4_0 a0 a1 a2 a3 a4 a5 v0 v1 v2 v3 g1 o1 c1 g2 o2 c2 W h1.lt h2.lt h1.at_ h2.at_ W rfl
  | [v0, v1, v2, v3, v4], _, h1, h2 => exact sameV5_0 a0 a1 a2 a3 a4 a5 v0 v1 v2 v3 v4 g1 o1 c1 g2 o2 c2 W h1.lt h2.lt h1.at_ h2.at_ W rfl
  | [v0, v1, v2, v3, v4, v5], _, h1, h2 => exact sameV6_0 a0 a1 a2 a3 a4 a5 v0 v1 v2 v3 v4 v5 g1 o1 c1 g2 o2 c2 W h1.lt h2.lt h1.at_ h2.at_ W rfl
  | [v0, v1, v2, v3, v4, v5, v6], _, h1, h2 => exact sameV7_0 a0 a1 a2 a3 a4 a5 v0 v1 v2 v3 v4 v5 v6 g1 o1 c1 g2 o2 c2 W h1.lt h2.lt h1.at_ h2.at_ W rfl
  | [v0, v1, v2, v3, v4, v5, v6, v7], _, h1, h2 => exact sameV8_0 a0 a1 a2 a3 a4 a5 v0 v1 v2 v3 v4 v5 v6 v7 g1 o1 c1 g2 o2 c2 W h1.lt h2.lt h1.at_ h2.at_ W rfl
  | _ :: _ :: _ :: _ :: _ :: _ :: _ :: _ :: _ :: _, hv, _, _ => simp at hv
theorem rowS_get : ∀ (F : List Sn) (j i : Nat) (hj : j < F.length), i < 12 → (rowS F)[j * 12 + i]? = (Sn.cells F[j])[i]?
  | [], j, i, hj, _ => by simp at hj
  | x :: F, 0, i, _, hi => by
    have h : i < (Sn.cells x).length := by simpa [Sn.cells] using hi
    simp only [rowS, List.map_cons, List.flatten_cons, Nat.zero_mul, Nat.zero_add, List.getElem_cons_zero]
    exact List.getElem?_append_left h
  | x :: F, j + 1, i, hj, hi => by
    have h : (Sn.cells x).length = 12 := by simp [Sn.cells]
    have ih := rowS_get F j i (by simpa using hj) hi
    simp only [rowS, List.map_cons, List.flatten_cons, List.getElem_cons_succ] at ih ⊢
    rw [List.getElem?_append_right (by omega), h, show (j + 1) * 12 + i - 12 = j * 12 + i by omega]
    exact ih
/-- a row of frames that one holds -/
def RowIs (W : World) (F : List Sn) (s : Value) : Prop := ∃ a c, s = .slice a F.length c ∧ (F ≠ [] → ∃ g, a = some ⟨g, 0, none⟩ ∧ g < W.heap.size ∧ ReadsS W g 0 F.toArray)
theorem rowIs_own {W : World} {n₀ : Nat} {F : List Sn} {s : Value} (h : W.ownsRow n₀ 42 12 s F.length (rowS F)) : RowIs W F s := by
  rcases h.2 with ⟨rfl, h0⟩ | ⟨g, cap, cur, rfl, _, hg, _, _, hsz, htk⟩
  · exact ⟨none, 0, by rw [h0], fun hn => absurd (List.length_eq_zero_iff.1 h0) hn⟩
  · refine ⟨_, _, rfl, fun _ => ⟨g, rfl, (Array.getElem?_eq_some_iff.1 hg).1, fun j hj => ?_⟩⟩
    have hj' : j < F.length := by simpa using hj
    have key : ∀ i, i < 12 → W.cell? ⟨g, 0 + j * 12 + i, none⟩ = (Sn.cells F[j])[i]? := fun i hi => by
      rw [← rowS_get F j i hj' hi, ← htk, Nat.zero_add]
      have : j * 12 + i < F.length * 12 := by omega
      rw [List.getElem?_take_of_lt this]
      simp [World.cell?, hg]
    have e : F.toArray[j]! = F[j] := by rw [getElem!_pos F.toArray j (by simpa using hj')]; simp
    rw [e]
    exact ⟨key 0 (by decide), key 1 (by decide), key 2 (by decide), key 3 (by decide), key 4 (by decide), key 5 (by decide), key 6 (by decide), key 7 (by decide), key 8 (by decide), key 9 (by decide), key 10 (by decide), key 11 (by decide)⟩
theorem wkF_small (l : Lg) (B : Nat → Nat) (p : Int) : ∀ (n : Nat) (off : Int), ∀ x ∈ wkF l B p n off, -2147483648 ≤ x.len ∧ x.len ≤ 2147483647
  | 0, _, x, hx => by simp [wkF] at hx
  | n + 1, off, x, hx => by
    unfold wkF at hx
    split at hx
    · rcases List.mem_cons.1 hx with rfl | hx
      · exact s32_bd _
      · exact wkF_small l B p n _ x hx
    · simp at hx
theorem allF_small (l : Lg) (B : Nat → Nat) : ∀ n, Small (allF l B n).toArray := fun n j hj => by
  have key : ∀ n, ∀ x ∈ allF l B n, -2147483648 ≤ x.len ∧ x.len ≤ 2147483647 := fun n => by
    induction n with
    | zero => intro x hx; simp [allF] at hx
    | succ n ih =>
      intro x hx
      rw [allF_succ, List.mem_append] at hx
      exact hx.elim (ih x) (wkF_small l B _ _ _ x)
  have hj' : j < (allF l B n).length := by simpa using hj
  rw [show (allF l B n).toArray[j]! = (allF l B n)[j] by rw [getElem!_pos (allF l B n).toArray j (by simpa using hj')]; simp]
  exact key n _ (List.getElem_mem hj')
set_option maxHeartbeats 3200000 in
set_option maxRecDepth 1000000 in
theorem same_none (a1 a2 : Option Addr) (c1 c2 : Nat) (w : World) : Calls Tryz.prog 11 #[.slice a1 0 c1, .slice a2 0 c2] w fun e w' => e = .returned (.bool true) ∧ Below w.heap.size w w' := by
  go_enter Tryz.func11, Tryz.ntmps11
  go_wp2
  refine wp_loop_rounds 1 ?_
  rw [rounds_succ]
  go_wp2
  go_ret
  exact ⟨rfl, Below.refl _ _⟩
end Go.Proofs.YtndgbfpcnkmihaaGreatDoor.Sy
