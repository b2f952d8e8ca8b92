/- St0, St1, St2, StTop, FixB, WnK: in one text. -/
import Derived.Test.YtpbhfckefmboaaaGreatDoorGp44
import Derived.Test.YtpbhfckefmboaaaGreatDoorGp45
import Derived.Test.YtpbhfckefmboaaaGreatDoorGp16
import Derived.Test.YtpbhfckefmboaaaGreatDoorGp25
set_option linter.unusedVariables false
set_option linter.unusedSimpArgs false
set_option linter.unusedSectionVars false
open Go Go.AE Go.RowKit Go.Proofs
set_option maxHeartbeats 0
namespace Go.Proofs.YtpbhfckefmboaaaGreatDoor
open Sm
abbrev Tw0 : World → Prop := fun w => TabAt 0 Lib.deBruijn64tab w
set_option maxRecDepth 10000000 in
theorem st0_ok : EntT Tryz.prog Tw0 st0 := stationT (by kernel_rfl) (T := fun w => TabAt 0 Lib.deBruijn64tab w) Fx.S_ok (L := []) allT0 (fuel := nat_lit 20000) (d := nat_lit 60) (by kernel_rfl)
set_option maxRecDepth 10000000 in
theorem st3_ok : EntT Tryz.prog Tw0 st3 := stationT (by kernel_rfl) (T := fun w => TabAt 0 Lib.deBruijn64tab w) Fx.S_ok (L := []) allT0 (fuel := nat_lit 20000) (d := nat_lit 60) (by kernel_rfl)
set_option maxRecDepth 10000000 in
theorem st6_ok : EntT Tryz.prog Tw0 st6 := stationT (by kernel_rfl) (T := fun w => TabAt 0 Lib.deBruijn64tab w) Fx.S_ok (L := []) allT0 (fuel := nat_lit 20000) (d := nat_lit 60) (by kernel_rfl)
set_option maxRecDepth 10000000 in
theorem st9_ok : EntT Tryz.prog Tw0 st9 := stationT (by kernel_rfl) (T := fun w => TabAt 0 Lib.deBruijn64tab w) Fx.S_ok (L := []) allT0 (fuel := nat_lit 20000) (d := nat_lit 60) (by kernel_rfl)
set_option maxRecDepth 10000000 in
theorem st12_ok : EntT Tryz.prog Tw0 st12 := stationT (by kernel_rfl) (T := fun w => TabAt 0 Lib.deBruijn64tab w) Fx.S_ok (L := []) allT0 (fuel := nat_lit 20000) (d := nat_lit 60) (by kernel_rfl)
set_option maxRecDepth 10000000 in
theorem st15_ok : EntT Tryz.prog Tw0 st15 := stationT (by kernel_rfl) (T := fun w => TabAt 0 Lib.deBruijn64tab w) Fx.S_ok (L := []) allT0 (fuel := nat_lit 20000) (d := nat_lit 60) (by kernel_rfl)
set_option maxRecDepth 10000000 in
theorem st18_ok : EntT Tryz.prog Tw0 st18 := stationT (by kernel_rfl) (T := fun w => TabAt 0 Lib.deBruijn64tab w) Fx.S_ok (L := []) allT0 (fuel := nat_lit 20000) (d := nat_lit 60) (by kernel_rfl)
end Go.Proofs.YtpbhfckefmboaaaGreatDoor
open Go Go.AE Go.RowKit Go.Proofs
set_option maxHeartbeats 0
namespace Go.Proofs.YtpbhfckefmboaaaGreatDoor
open Sm
abbrev Tw1 : World → Prop := fun w => TabAt 0 Lib.deBruijn64tab w
set_option maxRecDepth 10000000 in
theorem st1_ok : EntT Tryz.prog Tw1 st1 := stationT (by kernel_rfl) (T := fun w => TabAt 0 Lib.deBruijn64tab w) Fx.S_ok (L := []) allT0 (fuel := nat_lit 20000) (d := nat_lit 60) (by kernel_rfl)
set_option maxRecDepth 10000000 in
theorem st4_ok : EntT Tryz.prog Tw1 st4 := stationT (by kernel_rfl) (T := fun w => TabAt 0 Lib.deBruijn64tab w) Fx.S_ok (L := []) allT0 (fuel := nat_lit 20000) (d := nat_lit 60) (by kernel_rfl)
set_option maxRecDepth 10000000 in
theorem st7_ok : EntT Tryz.prog Tw1 st7 := stationT (by kernel_rfl) (T := fun w => TabAt 0 Lib.deBruijn64tab w) Fx.S_ok (L := []) allT0 (fuel := nat_lit 20000) (d := nat_lit 60) (by kernel_rfl)
set_option maxRecDepth 10000000 in
theorem st10_ok : EntT Tryz.prog Tw1 st10 := stationT (by kernel_rfl) (T := fun w => TabAt 0 Lib.deBruijn64tab w) Fx.S_ok (L := []) allT0 (fuel := nat_lit 20000) (d := nat_lit 60) (by kernel_rfl)
set_option maxRecDepth 10000000 in
theorem st13_ok : EntT Tryz.prog Tw1 st13 := stationT (by kernel_rfl) (T := fun w => TabAt 0 Lib.deBruijn64tab w) Fx.S_ok (L := []) allT0 (fuel := nat_lit 20000) (d := nat_lit 60) (by kernel_rfl)
set_option maxRecDepth 10000000 in
theorem st16_ok : EntT Tryz.prog Tw1 st16 := stationT (by kernel_rfl) (T := fun w => TabAt 0 Lib.deBruijn64tab w) Fx.S_ok (L := []) allT0 (fuel := nat_lit 20000) (d := nat_lit 60) (by kernel_rfl)
end Go.Proofs.YtpbhfckefmboaaaGreatDoor
open Go Go.AE Go.RowKit Go.Proofs
set_option maxHeartbeats 0
namespace Go.Proofs.YtpbhfckefmboaaaGreatDoor
open Sm
abbrev Tw2 : World → Prop := fun w => TabAt 0 Lib.deBruijn64tab w
set_option maxRecDepth 10000000 in
theorem st2_ok : EntT Tryz.prog Tw2 st2 := stationT (by kernel_rfl) (T := fun w => TabAt 0 Lib.deBruijn64tab w) Fx.S_ok (L := []) allT0 (fuel := nat_lit 20000) (d := nat_lit 60) (by kernel_rfl)
set_option maxRecDepth 10000000 in
theorem st5_ok : EntT Tryz.prog Tw2 st5 := stationT (by kernel_rfl) (T := fun w => TabAt 0 Lib.deBruijn64tab w) Fx.S_ok (L := []) allT0 (fuel := nat_lit 20000) (d := nat_lit 60) (by kernel_rfl)
set_option maxRecDepth 10000000 in
theorem st8_ok : EntT Tryz.prog Tw2 st8 := stationT (by kernel_rfl) (T := fun w => TabAt 0 Lib.deBruijn64tab w) Fx.S_ok (L := []) allT0 (fuel := nat_lit 20000) (d := nat_lit 60) (by kernel_rfl)
set_option maxRecDepth 10000000 in
theorem st11_ok : EntT Tryz.prog Tw2 st11 := stationT (by kernel_rfl) (T := fun w => TabAt 0 Lib.deBruijn64tab w) Fx.S_ok (L := []) allT0 (fuel := nat_lit 20000) (d := nat_lit 60) (by kernel_rfl)
set_option maxRecDepth 10000000 in
theorem st14_ok : EntT Tryz.prog Tw2 st14 := stationT (by kernel_rfl) (T := fun w => TabAt 0 Lib.deBruijn64tab w) Fx.S_ok (L := []) allT0 (fuel := nat_lit 20000) (d := nat_lit 60) (by kernel_rfl)
set_option maxRecDepth 10000000 in
theorem st17_ok : EntT Tryz.prog Tw2 st17 := stationT (by kernel_rfl) (T := fun w => TabAt 0 Lib.deBruijn64tab w) Fx.S_ok (L := []) allT0 (fuel := nat_lit 20000) (d := nat_lit 60) (by kernel_rfl)
end Go.Proofs.YtpbhfckefmboaaaGreatDoor
open Go Go.AE Go.RowKit Go.Proofs
set_option maxHeartbeats 0
namespace Go.Proofs.YtpbhfckefmboaaaGreatDoor
open Sm
noncomputable abbrev stL : List Ent := [st0, st1, st2, st3, st4, st5, st6, st7, st8, st9, st10, st11, st12, st13, st14, st15, st16, st17, st18]
theorem stL_ok : ∀ e ∈ stL, EntT Tryz.prog (fun w => TabAt 0 Lib.deBruijn64tab w) e := (allTc st0_ok (allTc st1_ok (allTc st2_ok (allTc st3_ok (allTc st4_ok (allTc st5_ok (allTc st6_ok (allTc st7_ok (allTc st8_ok (allTc st9_ok (allTc st10_ok (allTc st11_ok (allTc st12_ok (allTc st13_ok (allTc st14_ok (allTc st15_ok (allTc st16_ok (allTc st17_ok (allTc st18_ok allT0)))))))))))))))))))
end Go.Proofs.YtpbhfckefmboaaaGreatDoor
namespace Go.Proofs.YtpbhfckefmboaaaGreatDoor.Fx
open Go Go.AE Go.RowKit
set_option maxRecDepth 10000000 in
set_option maxHeartbeats 0 in
theorem fixR : isTrue (evCallF (mkEnvL Tryz.prog) (orS S stL) (nat_lit 20000) (nat_lit 60) (.fn (nat_lit 12)) [] ⟨0, .nil⟩) = true := by kernel_rfl
theorem fixed (w : World) (hT : TabAt 0 Lib.deBruijn64tab w) : Calls Tryz.prog 12 #[] w fun e w' => e = .returned (.bool true) ∧ Below w.heap.size w w' :=
  ae_fast_with (args := []) (args' := #[]) (by kernel_rfl) ⟨rfl, fun i h => absurd h (by simp)⟩ fixR w (orS_ok (T := fun w => TabAt 0 Lib.deBruijn64tab w) S_ok stL_ok w hT)
end Go.Proofs.YtpbhfckefmboaaaGreatDoor.Fx
namespace Go.Proofs.YtpbhfckefmboaaaGreatDoor.Ba
open Go Go.RowKit Go.Lib Go.Base Go.Proofs.YtpbhfckefmboaaaGreatDoor.Sy
/-- the writers' acts as they lie -/
def ArgsW (w : World) (s : Sp) (rows : List (List OpN)) : Prop := rows.length = s.wn ∧ ∀ (j : Nat) (r : List OpN), rows[j]? = some r → ∃ gb go la lc, s.wa = some ⟨gb, go, none⟩ ∧ gb < w.heap.size ∧ w.cell? ⟨gb, go + j, none⟩ = some (.slice la r.length lc) ∧ OpsAt w (fun k => k < w.heap.size) (.slice la r.length lc) r ∧ ∀ o ∈ r, ∀ x ∈ o.data, x < 256
theorem opsAt_take {w : World} {K : Nat → Prop} {la : Option Addr} {lc n : Nat} {r : List OpN} (h : OpsAt w K (.slice la r.length lc) r) : OpsAt w K (.slice la (r.take n).length lc) (r.take n) := by
  obtain ⟨la', ln, lc', e, h1, h2, h3⟩ := h
  injection e with e1 e2 e3
  subst e1 e2 e3
  refine ⟨la, (r.take n).length, lc, rfl, rfl, by rw [List.length_take]; omega, fun j o hj => h3 j o ?_⟩
  rw [List.getElem?_take] at hj
  split at hj
  · exact hj
  · cases hj
theorem ArgsW.rows {w : World} {s : Sp} {rows : List (List OpN)} (h : ArgsW w s rows) : RowsW w s (rows.map fun r => r.map fun o => o.data.length) := by
  refine ⟨by simp [h.1], fun j dl hj => ?_⟩
  rw [List.getElem?_map, Option.map_eq_some_iff] at hj
  obtain ⟨r, hr, rfl⟩ := hj
  obtain ⟨gb, go, la, lc, h1, h2, h3, h4, h5⟩ := h.2 j r hr
  refine ⟨gb, go, la, lc, h1, h2, by simpa using h3, fun k d hk => ?_⟩
  rw [List.getElem?_map, Option.map_eq_some_iff] at hk
  obtain ⟨o, ho, rfl⟩ := hk
  obtain ⟨la', ln, lc', e, e1, e2, e3⟩ := h4
  injection e with q1 q2 q3
  subst q1 q3
  obtain ⟨g, go', ba, bc, a1, a2, a3, a4, a5⟩ := e3 k o ho
  exact ⟨g, go', o.kind, ba, bc, a1, a2, a3, a4⟩
theorem ArgsW.wrs {w : World} {l : Lg} {s : Sp} {rows : List (List OpN)} (h : ArgsW w s rows) (hl : l.ok) (ht : -9223372036854775808 ≤ s.tries ∧ s.tries < 9223372036854775808) (hs : ∀ r ∈ rows, r.length ≤ 100 ∧ ∀ o ∈ r, o.data.length ≤ 100) : WrsC w l s := by
  intro j hj
  obtain ⟨r, hr⟩ : ∃ r, rows[j]? = some r := ⟨rows[j]'(by rw [h.1]; exact hj), by simp⟩
  obtain ⟨gb, go, la, lc, h1, h2, h3, h4, h5⟩ := h.2 j r hr
  obtain ⟨s1, s2⟩ := hs r (List.mem_of_getElem? hr)
  refine ⟨gb, go, la, r.length, lc, h1, h2, h3, fun V hV => ?_⟩
  have hops := (opsAt_take (n := 64) h4).move (W' := V) (K' := fun k => k < V.heap.size) (fun b hb hb2 => hV.block b hb2) (fun b hb hb2 => Nat.lt_of_lt_of_le hb2 hV.size)
  refine (write_made (q := 0) hl hops (fun o ho => ⟨h5 o (List.mem_of_mem_take ho), by have := s2 o (List.mem_of_mem_take ho); omega⟩) (by rw [List.length_take]; omega) (m := r.length) (by rw [List.length_take]; omega) (by omega) ht (by omega)).mono ?_
  rintro e w' ⟨b, K', rfl, hb, -⟩
  exact ⟨b, rfl, hb⟩
theorem WrsC.below {w V : World} {l : Lg} {s : Sp} (h : WrsC w l s) (hV : Below w.heap.size w V) : WrsC V l s := fun j hj => by
  obtain ⟨gb, go, la, m, lc, h1, h2, h3, h4⟩ := h j hj
  exact ⟨gb, go, la, m, lc, h1, Nat.lt_of_lt_of_le h2 hV.size, (hV.cell (p := ⟨gb, go + j, none⟩) h2).trans h3, fun V' hV' => h4 V' (hV.trans (hV'.mono hV.size))⟩
theorem LensAt.below {w V : World} {s : Sp} {ls : List Nat} (h : LensAt w s ls) (hV : Below w.heap.size w V) : LensAt V s ls := ⟨h.1, fun j m hj => by
  obtain ⟨gb, go, la, lc, h1, h2, h3⟩ := h.2 j m hj
  exact ⟨gb, go, la, lc, h1, Nat.lt_of_lt_of_le h2 hV.size, (hV.cell (p := ⟨gb, go + j, none⟩) h2).trans h3⟩⟩
theorem ArgsW.lens {w : World} {s : Sp} {rows : List (List OpN)} (h : ArgsW w s rows) : LensAt w s (rows.map List.length) := by
  refine ⟨by simp [h.1], fun j m hj => ?_⟩
  rw [List.getElem?_map, Option.map_eq_some_iff] at hj
  obtain ⟨r, hr, rfl⟩ := hj
  obtain ⟨gb, go, la, lc, h1, h2, h3, -⟩ := h.2 j r hr
  exact ⟨gb, go, la, lc, h1, h2, h3⟩
/-- the law, over a setup as it lies -/
theorem bound_any {w : World} {l : Lg} {s : Sp} {rows : List (List OpN)} (hw : l.wf) (hA : ArgsW w s rows) (ht : -9223372036854775808 ≤ s.tries ∧ s.tries < 9223372036854775808) (hT : TabAt 0 Lib.deBruijn64tab w) :
    Calls Tryz.prog 4 #[.agg (spC l s)] w fun e w' => e = .returned (.bool true) ∧ Below w.heap.size w w' := by
  refine law_any hw hA.rows (fun V hV => Fx.fixed V fun j hj => (hV.cell (p := ⟨0, j, none⟩) (World.block_lt_of_cell? w _ (hT j hj))).trans (hT j hj)) fun h20 hsm => ?_
  have hs : ∀ r ∈ rows, r.length ≤ 100 ∧ ∀ o ∈ r, o.data.length ≤ 100 := fun r hr => by
    obtain ⟨h1, h2⟩ := hsm _ (List.mem_map.2 ⟨r, hr, rfl⟩)
    exact ⟨by simpa using h1, fun o ho => h2 _ (List.mem_map.2 ⟨o, ho, rfl⟩)⟩
  by_cases hz : spErr l s = 0
  · have hz2 := hz
    unfold spErr at hz2
    split at hz2
    · cases hz2
    · rename_i h1
      split at hz2
      · cases hz2
      · rename_i h2
        have hl : l.ok := Classical.byContradiction fun h => h1 (.inl h)
        have hto : 0 ≤ s.timeout ∧ s.timeout ≤ 1099511627776 := by
          have q1 : ¬ s.timeout < 0 := fun h => h1 (.inr (.inl h))
          have q2 : ¬ s.timeout > 1099511627776 := fun h => h1 (.inr (.inr h))
          omega
        have hm : ∀ m ∈ rows.map List.length, m ≤ 1000 := fun m hm => by
          obtain ⟨r, hr, rfl⟩ := List.mem_map.1 hm
          have := (hs r hr).1
          omega
        have hwr := hA.wrs hl ht hs
        exact ⟨_, 0, fun V hV => brounds_ok hl hz (hwr.below hV) (by omega) hto (hA.lens.below hV) hm, fun V hV => rrounds_ok hl hz (by omega) hto (hA.lens.below hV) hm⟩
  · exact ⟨0, _, fun V hV => brounds_no hw hz, fun V hV => rrounds_no hw hz⟩
end Go.Proofs.YtpbhfckefmboaaaGreatDoor.Ba
