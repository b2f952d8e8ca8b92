/- WnI, WsA, WsB: in one text. -/
import Derived.Test.YtpbhfckefmboaaaGreatDoorGp15
import Derived.Test.YtpbhfckefmboaaaGreatDoorGp09
set_option linter.unusedVariables false
set_option linter.unusedSimpArgs false
set_option linter.unusedSectionVars false
namespace Go.Proofs.YtpbhfckefmboaaaGreatDoor.Ba
open Go Go.RowKit Go.Lib Go.Base
/-- how long each writer's acts are, as they lie -/
def RowsW (w : World) (s : Sp) (dls : List (List Nat)) : Prop := dls.length = s.wn ∧ ∀ (j : Nat) (dl : List Nat), dls[j]? = some dl → ∃ gb go la lc, s.wa = some ⟨gb, go, none⟩ ∧ gb < w.heap.size ∧ w.cell? ⟨gb, go + j, none⟩ = some (.slice la dl.length lc) ∧ ∀ (k d : Nat), dl[k]? = some d → ∃ g2 o2 kd ba bc, la = some ⟨g2, o2, none⟩ ∧ g2 < w.heap.size ∧ w.cell? ⟨g2, o2 + 2 * k, none⟩ = some (.int .i64 kd) ∧ w.cell? ⟨g2, o2 + 2 * k + 1, none⟩ = some (.slice ba d bc)
/-- acts that are few and short -/
def SmallR (dl : List Nat) : Prop := dl.length ≤ 100 ∧ ∀ d ∈ dl, d ≤ 100
set_option maxHeartbeats 3200000 in
set_option maxRecDepth 100000 in
theorem law_any {w : World} {l : Lg} {s : Sp} {dls : List (List Nat)} (hw : l.wf) (hr : RowsW w s dls)
    (hF : ∀ V, Below w.heap.size w V → Calls Tryz.prog 12 #[] V fun e w' => e = .returned (.bool true) ∧ Below V.heap.size V w')
    (hB : s.wn ≤ 20 → (∀ dl ∈ dls, SmallR dl) → ∃ v e : Int, (∀ V, Below w.heap.size w V → Calls Tryz.prog 14 #[.agg (spC l s)] V fun r w' => r = .returned (.tuple #[.int .i64 v, .int .i64 e]) ∧ Below V.heap.size V w') ∧ (∀ V, Below w.heap.size w V → Calls Tryz.prog 15 #[.agg (spC l s)] V fun r w' => r = .returned (.tuple #[.int .i64 v, .int .i64 e]) ∧ Below V.heap.size V w')) :
    Calls Tryz.prog 4 #[.agg (spC l s)] w fun e w' => e = .returned (.bool true) ∧ Below w.heap.size w w' := by
  have cC := fun W => wcheckR_any (w := W) (l := l) (s := s) hw
  unfold spC at cC hB ⊢
  obtain ⟨er, her⟩ : ∃ er, spErr l s = er := ⟨_, rfl⟩
  rw [her] at cC
  obtain ⟨X, hX⟩ : ∃ X, w.heap.size = X := ⟨_, rfl⟩
  obtain ⟨wa, hwa0⟩ : ∃ wa, s.wa = wa := ⟨_, rfl⟩
  rw [hwa0] at cC hB ⊢
  obtain ⟨V1, hV1⟩ : ∃ V, w.alloc (.cells #[.int .i64 l.base, .int .i64 l.term, .int .i64 l.mtu, .int .i64 l.subs, .int .i32 l.ini, .int .i32 l.ses, .int .i32 l.str, .slice wa s.wn s.wc, .int .i64 s.tries, .int .i64 s.polls, .int .i64 s.most, .int .i64 s.cleans, .int .i64 s.timeout, .int .i64 s.looks] 26) = V := ⟨_, rfl⟩
  obtain ⟨b1, r1, s1⟩ := at_new hV1
  rw [hX] at r1 s1 b1 hF hB
  have H := Lib.hid (And.intro b1 (And.intro r1 (And.intro hr (And.intro hwa0 (And.intro hB (hF V1 b1))))))
  clear b1 r1 hr hwa0 hB hF her
  by_cases h20 : (s.wn : Int) > 20
  · go_enter Tryz.func4, Tryz.ntmps4
    go_wp2_with (go_at_call 12; refine H.out.2.2.2.2.2.mono ?_; rintro e w2 ⟨rfl, hB⟩; obtain ⟨d0, d1, d2, d3, d4, d5, d6, d7, d8, d9, d10, d11, d12, d13⟩ := blk14 ((hB.block X (by omega)).trans H.out.2.1); have H2 := Lib.hid (H.out.1.trans (hB.mono (by omega))); clear hB)
    go_ret
    exact ⟨rfl, by first | exact H2.out | (rw [hX]; exact H2.out)⟩
  · by_cases hbs : l.base > 1000 ∧ er = 0
    · obtain ⟨hbs, rfl⟩ := hbs
      go_enter Tryz.func4, Tryz.ntmps4
      go_wp2_with (first
        | (go_at_call 12; refine H.out.2.2.2.2.2.mono ?_; rintro e w2 ⟨rfl, hB⟩; have x2 := (hB.block X (by omega)).trans H.out.2.1; obtain ⟨d0, d1, d2, d3, d4, d5, d6, d7, d8, d9, d10, d11, d12, d13⟩ := blk14 x2; have H2 := Lib.hid (And.intro (H.out.1.trans (hB.mono (by omega))) (show X < w2.heap.size from Nat.lt_of_lt_of_le (by omega) hB.size)); clear hB x2)
        | (go_at_call 13; refine (cC _).mono ?_; rintro e w3 ⟨rfl, hB⟩; have H3 := Lib.hid (H2.out.1.trans (hB.mono (by have := H2.out.2; omega))); clear hB))
      go_ret
      exact ⟨rfl, by first | exact H3.out | (rw [hX]; exact H3.out)⟩
    · by_cases hb2 : l.base > 1000
      · have ne : ¬ er = 0 := fun h => hbs ⟨hb2, h⟩
        have q20 : decide ((20 : Int) < (s.wn : Int)) = false := by simp; omega
        have qe : (er == 0) = false := by simp [ne]
        clear hbs
        go_enter Tryz.func4, Tryz.ntmps4
        go_wp2_with (first
          | (go_at_call 12; refine H.out.2.2.2.2.2.mono ?_; rintro e w2 ⟨rfl, hB⟩; have x2 := (hB.block X (by omega)).trans H.out.2.1; obtain ⟨d0, d1, d2, d3, d4, d5, d6, d7, d8, d9, d10, d11, d12, d13⟩ := blk14 x2; have HL2 := Lib.hid (And.intro (H.out.1.trans (hB.mono (by omega))) (And.intro x2 (show X < w2.heap.size from Nat.lt_of_lt_of_le (by omega) hB.size))); clear hB x2)
          | (go_at_call 13; refine (cC _).mono ?_; rintro e w3 ⟨rfl, hB⟩; have x3 := (hB.block X HL2.out.2.2).trans HL2.out.2.1; obtain ⟨d0, d1, d2, d3, d4, d5, d6, d7, d8, d9, d10, d11, d12, d13⟩ := blk14 x3; have HL3 := Lib.hid (And.intro (HL2.out.1.trans (hB.mono (by have := HL2.out.2.2; omega))) (And.intro x3 (show X < w3.heap.size from Nat.lt_of_lt_of_le HL2.out.2.2 hB.size))); clear hB x3))
        have HL := Lib.hid HL3.out
        clear cC
        clear d0 d1 d2 d3 d4 d5 d6 d7 d8 d9 d10 d11 d12 d13
        go_loopw [31] (fun ii wr => ∃ i : Nat, ii = .int .i64 (i : Int) ∧ i ≤ s.wn ∧ Hid (Below X w wr ∧ wr.heap[X]? = V1.heap[X]? ∧ X < wr.heap.size ∧ ∀ j dl, j < i → dls[j]? = some dl → SmallR dl)) (fun ii _ => ((100 : Int) - intOf ii).toNat)
        case atStart => exact ⟨0, rfl, Nat.zero_le _, Lib.hid ⟨HL.out.1, HL.out.2.1.trans H.out.2.1.symm, HL.out.2.2, fun j dl hj => absurd hj (Nat.not_lt_zero _)⟩⟩
        case round =>
          obtain ⟨i, rfl, hi, HI⟩ := hrel
          by_cases hlt : i < s.wn
          · obtain ⟨dl, hdl⟩ : ∃ dl, dls[i]? = some dl := ⟨dls[i]'(by rw [H.out.2.2.1.1]; exact hlt), by simp⟩
            obtain ⟨gb, go, la, lc, hwa, hgb, cj, hk⟩ := H.out.2.2.1.2 i dl hdl
            obtain rfl : wa = some ⟨gb, go, none⟩ := H.out.2.2.2.1.symm.trans hwa
            have kj : wr.cell? ⟨gb, go + i, none⟩ = some (.slice la dl.length lc) := (HI.out.1.cell (p := ⟨gb, go + i, none⟩) (hX ▸ hgb)).trans cj
            have h0 : (0 : Int) ≤ (i : Int) := by omega
            have h1 : (i : Int) < (s.wn : Int) := by omega
            have qi : IntKind.i64.wrap ((i : Int) + 1) = (i : Int) + 1 := wrap_small _ (by omega) (by omega)
            have HK := Lib.hid hk
            clear hwa cj hgb hk
            by_cases h100 : (dl.length : Int) > 100
            · go_wp2
              go_ret
              exact ⟨rfl, by first | exact HI.out.1 | (rw [hX]; exact HI.out.1)⟩
            · go_wp2_with fail
              go_loopw [40] (fun kk wr => ∃ k : Nat, kk = .int .i64 (k : Int) ∧ k ≤ dl.length ∧ Hid (Below X w wr ∧ wr.heap[X]? = V1.heap[X]? ∧ X < wr.heap.size ∧ ∀ (j d : Nat), j < k → dl[j]? = some d → d ≤ 100)) (fun kk _ => ((200 : Int) - intOf kk).toNat)
              case atStart => exact ⟨0, rfl, Nat.zero_le _, Lib.hid ⟨HI.out.1, HI.out.2.1, HI.out.2.2.1, fun j d hj => absurd hj (Nat.not_lt_zero _)⟩⟩
              case round =>
                obtain ⟨k, rfl, hk, HJ⟩ := hrel
                by_cases hkl : k < dl.length
                · obtain ⟨d, hd⟩ : ∃ d, dl[k]? = some d := ⟨dl[k], by simp [hkl]⟩
                  obtain ⟨g2, o2, kd, ba, bc, rfl, hg2, ck1, ck2⟩ := HK.out k d hd
                  have n1 : wr.cell? ⟨g2, o2 + k * 2, none⟩ = some (.int .i64 kd) := by rw [Nat.mul_comm k 2]; exact (HJ.out.1.cell (p := ⟨g2, o2 + 2 * k, none⟩) (hX ▸ hg2)).trans ck1
                  have n2 : wr.cell? ⟨g2, o2 + k * 2 + 1, none⟩ = some (.slice ba d bc) := by rw [Nat.mul_comm k 2]; exact (HJ.out.1.cell (p := ⟨g2, o2 + 2 * k + 1, none⟩) (hX ▸ hg2)).trans ck2
                  have m0 : (0 : Int) ≤ (k : Int) := by omega
                  have m1 : (k : Int) < (dl.length : Int) := by omega
                  have qk : IntKind.i64.wrap ((k : Int) + 1) = (k : Int) + 1 := wrap_small _ (by omega) (by omega)
                  obtain ⟨Y, hY⟩ : ∃ Y, wr.heap.size = Y := ⟨_, rfl⟩
                  obtain ⟨W1, hW1⟩ : ∃ V, wr.alloc (.cells #[.int .i64 kd, .slice ba d bc] 53) = V := ⟨_, rfl⟩
                  obtain ⟨b6, r6, s6⟩ := at_new hW1
                  rw [hY] at r6
                  have j1 : W1.cell? ⟨Y, 1, none⟩ = some (.slice ba d bc) := by simp [World.cell?, r6]
                  have HB6 : Hid (Below X w W1 ∧ W1.heap[X]? = V1.heap[X]? ∧ X < W1.heap.size) := Lib.hid ⟨HJ.out.1.trans (b6.mono (by have := HJ.out.2.2.1; omega)), (b6.block X HJ.out.2.2.1).trans HJ.out.2.1, Nat.lt_of_lt_of_le HJ.out.2.2.1 b6.size⟩
                  clear hg2 ck1 ck2 b6 r6 s6
                  by_cases hd1 : (d : Int) > 100
                  · go_wp2
                    go_ret
                    exact ⟨rfl, by first | exact HB6.out.1 | (rw [hX]; exact HB6.out.1)⟩
                  · go_wp2_with fail
                    go_roundw
                    case measure => simp [intOf]; omega
                    case rel =>
                      refine ⟨k + 1, by simp, by omega, Lib.hid ⟨HB6.out.1, HB6.out.2.1, HB6.out.2.2, fun j d' hj hd' => ?_⟩⟩
                      by_cases he : j = k
                      · subst he; rw [hd] at hd'; injection hd' with hd'; omega
                      · exact HJ.out.2.2.2 j d' (by omega) hd'
                · have hkn : k = dl.length := by omega
                  subst hkn
                  clear hk
                  go_wp2_with fail
                  go_roundw
                  case measure => simp [intOf]; omega
                  case rel =>
                    refine ⟨i + 1, by simp, by omega, Lib.hid ⟨HJ.out.1, HJ.out.2.1, HJ.out.2.2.1, fun j dl' hj hd' => ?_⟩⟩
                    by_cases he : j = i
                    · subst he; rw [hdl] at hd'; injection hd' with hd'; subst hd'
                      exact ⟨by omega, fun d hd => by obtain ⟨n, hn⟩ := List.getElem?_of_mem hd; exact HJ.out.2.2.2 n d (List.getElem?_eq_some_iff.1 hn).1 hn⟩
                    · exact HI.out.2.2.2 j dl' (by omega) hd'
          · have hin : i = s.wn := by omega
            subst hin
            obtain ⟨v, e, hb1, hb2⟩ := H.out.2.2.2.2.1 (by omega) (fun dl hd => by obtain ⟨n, hn⟩ := List.getElem?_of_mem hd; exact HI.out.2.2.2 n dl (by have := (List.getElem?_eq_some_iff.1 hn).1; rw [H.out.2.2.1.1] at this; exact this) hn)
            obtain ⟨d0, d1, d2, d3, d4, d5, d6, d7, d8, d9, d10, d11, d12, d13⟩ := blk14 (HI.out.2.1.trans H.out.2.1)
            have HR := Lib.hid (And.intro hb1 hb2)
            clear hb1 hb2 hi
            go_wp2_with (first
              | (go_at_call 14; refine (HR.out.1 _ HI.out.1).mono ?_; rintro r w6 ⟨rfl, hB⟩; have x6 := (hB.block X HI.out.2.2.1).trans (HI.out.2.1.trans H.out.2.1); obtain ⟨e0, e1, e2, e3, e4, e5, e6, e7, e8, e9, e10, e11, e12, e13⟩ := blk14 x6; have H6 := Lib.hid (And.intro (HI.out.1.trans (hB.mono (by have := HI.out.2.2.1; omega))) (show X < w6.heap.size from Nat.lt_of_lt_of_le HI.out.2.2.1 hB.size)); clear hB x6)
              | (go_at_call 15; refine (HR.out.2 _ H6.out.1).mono ?_; rintro r w7 ⟨rfl, hB⟩; have H7 := Lib.hid (H6.out.1.trans (hB.mono (by have := H6.out.2; omega))); clear hB))
            go_ret
            exact ⟨by first | rfl | simp, by first | exact H7.out | (rw [hX]; exact H7.out)⟩
      · have q20 : decide ((20 : Int) < (s.wn : Int)) = false := by simp; omega
        have qb : decide ((1000 : Int) < l.base) = false := by simp; omega
        clear hbs
        go_enter Tryz.func4, Tryz.ntmps4
        go_wp2_with (go_at_call 12; refine H.out.2.2.2.2.2.mono ?_; rintro e w2 ⟨rfl, hB⟩; have x2 := (hB.block X (by omega)).trans H.out.2.1; obtain ⟨d0, d1, d2, d3, d4, d5, d6, d7, d8, d9, d10, d11, d12, d13⟩ := blk14 x2; have HL2 := Lib.hid (And.intro (H.out.1.trans (hB.mono (by omega))) (And.intro x2 (show X < w2.heap.size from Nat.lt_of_lt_of_le (by omega) hB.size))); clear hB x2)
        have HL := Lib.hid HL2.out
        clear cC
        clear d0 d1 d2 d3 d4 d5 d6 d7 d8 d9 d10 d11 d12 d13
        go_loopw [31] (fun ii wr => ∃ i : Nat, ii = .int .i64 (i : Int) ∧ i ≤ s.wn ∧ Hid (Below X w wr ∧ wr.heap[X]? = V1.heap[X]? ∧ X < wr.heap.size ∧ ∀ j dl, j < i → dls[j]? = some dl → SmallR dl)) (fun ii _ => ((100 : Int) - intOf ii).toNat)
        case atStart => exact ⟨0, rfl, Nat.zero_le _, Lib.hid ⟨HL.out.1, HL.out.2.1.trans H.out.2.1.symm, HL.out.2.2, fun j dl hj => absurd hj (Nat.not_lt_zero _)⟩⟩
        case round =>
          obtain ⟨i, rfl, hi, HI⟩ := hrel
          by_cases hlt : i < s.wn
          · obtain ⟨dl, hdl⟩ : ∃ dl, dls[i]? = some dl := ⟨dls[i]'(by rw [H.out.2.2.1.1]; exact hlt), by simp⟩
            obtain ⟨gb, go, la, lc, hwa, hgb, cj, hk⟩ := H.out.2.2.1.2 i dl hdl
            obtain rfl : wa = some ⟨gb, go, none⟩ := H.out.2.2.2.1.symm.trans hwa
            have kj : wr.cell? ⟨gb, go + i, none⟩ = some (.slice la dl.length lc) := (HI.out.1.cell (p := ⟨gb, go + i, none⟩) (hX ▸ hgb)).trans cj
            have h0 : (0 : Int) ≤ (i : Int) := by omega
            have h1 : (i : Int) < (s.wn : Int) := by omega
            have qi : IntKind.i64.wrap ((i : Int) + 1) = (i : Int) + 1 := wrap_small _ (by omega) (by omega)
            have HK := Lib.hid hk
            clear hwa cj hgb hk
            by_cases h100 : (dl.length : Int) > 100
            · go_wp2
              go_ret
              exact ⟨rfl, by first | exact HI.out.1 | (rw [hX]; exact HI.out.1)⟩
            · go_wp2_with fail
              go_loopw [40] (fun kk wr => ∃ k : Nat, kk = .int .i64 (k : Int) ∧ k ≤ dl.length ∧ Hid (Below X w wr ∧ wr.heap[X]? = V1.heap[X]? ∧ X < wr.heap.size ∧ ∀ (j d : Nat), j < k → dl[j]? = some d → d ≤ 100)) (fun kk _ => ((200 : Int) - intOf kk).toNat)
              case atStart => exact ⟨0, rfl, Nat.zero_le _, Lib.hid ⟨HI.out.1, HI.out.2.1, HI.out.2.2.1, fun j d hj => absurd hj (Nat.not_lt_zero _)⟩⟩
              case round =>
                obtain ⟨k, rfl, hk, HJ⟩ := hrel
                by_cases hkl : k < dl.length
                · obtain ⟨d, hd⟩ : ∃ d, dl[k]? = some d := ⟨dl[k], by simp [hkl]⟩
                  obtain ⟨g2, o2, kd, ba, bc, rfl, hg2, ck1, ck2⟩ := HK.out k d hd
                  have n1 : wr.cell? ⟨g2, o2 + k * 2, none⟩ = some (.int .i64 kd) := by rw [Nat.mul_comm k 2]; exact (HJ.out.1.cell (p := ⟨g2, o2 + 2 * k, none⟩) (hX ▸ hg2)).trans ck1
                  have n2 : wr.cell? ⟨g2, o2 + k * 2 + 1, none⟩ = some (.slice ba d bc) := by rw [Nat.mul_comm k 2]; exact (HJ.out.1.cell (p := ⟨g2, o2 + 2 * k + 1, none⟩) (hX ▸ hg2)).trans ck2
                  have m0 : (0 : Int) ≤ (k : Int) := by omega
                  have m1 : (k : Int) < (dl.length : Int) := by omega
                  have qk : IntKind.i64.wrap ((k : Int) + 1) = (k : Int) + 1 := wrap_small _ (by omega) (by omega)
                  obtain ⟨Y, hY⟩ : ∃ Y, wr.heap.size = Y := ⟨_, rfl⟩
                  obtain ⟨W1, hW1⟩ : ∃ V, wr.alloc (.cells #[.int .i64 kd, .slice ba d bc] 53) = V := ⟨_, rfl⟩
                  obtain ⟨b6, r6, s6⟩ := at_new hW1
                  rw [hY] at r6
                  have j1 : W1.cell? ⟨Y, 1, none⟩ = some (.slice ba d bc) := by simp [World.cell?, r6]
                  have HB6 : Hid (Below X w W1 ∧ W1.heap[X]? = V1.heap[X]? ∧ X < W1.heap.size) := Lib.hid ⟨HJ.out.1.trans (b6.mono (by have := HJ.out.2.2.1; omega)), (b6.block X HJ.out.2.2.1).trans HJ.out.2.1, Nat.lt_of_lt_of_le HJ.out.2.2.1 b6.size⟩
                  clear hg2 ck1 ck2 b6 r6 s6
                  by_cases hd1 : (d : Int) > 100
                  · go_wp2
                    go_ret
                    exact ⟨rfl, by first | exact HB6.out.1 | (rw [hX]; exact HB6.out.1)⟩
                  · go_wp2_with fail
                    go_roundw
                    case measure => simp [intOf]; omega
                    case rel =>
                      refine ⟨k + 1, by simp, by omega, Lib.hid ⟨HB6.out.1, HB6.out.2.1, HB6.out.2.2, fun j d' hj hd' => ?_⟩⟩
                      by_cases he : j = k
                      · subst he; rw [hd] at hd'; injection hd' with hd'; omega
                      · exact HJ.out.2.2.2 j d' (by omega) hd'
                · have hkn : k = dl.length := by omega
                  subst hkn
                  clear hk
                  go_wp2_with fail
                  go_roundw
                  case measure => simp [intOf]; omega
                  case rel =>
                    refine ⟨i + 1, by simp, by omega, Lib.hid ⟨HJ.out.1, HJ.out.2.1, HJ.out.2.2.1, fun j dl' hj hd' => ?_⟩⟩
                    by_cases he : j = i
                    · subst he; rw [hdl] at hd'; injection hd' with hd'; subst hd'
                      exact ⟨by omega, fun d hd => by obtain ⟨n, hn⟩ := List.getElem?_of_mem hd; exact HJ.out.2.2.2 n d (List.getElem?_eq_some_iff.1 hn).1 hn⟩
                    · exact HI.out.2.2.2 j dl' (by omega) hd'
          · have hin : i = s.wn := by omega
            subst hin
            obtain ⟨v, e, hb1, hb2⟩ := H.out.2.2.2.2.1 (by omega) (fun dl hd => by obtain ⟨n, hn⟩ := List.getElem?_of_mem hd; exact HI.out.2.2.2 n dl (by have := (List.getElem?_eq_some_iff.1 hn).1; rw [H.out.2.2.1.1] at this; exact this) hn)
            obtain ⟨d0, d1, d2, d3, d4, d5, d6, d7, d8, d9, d10, d11, d12, d13⟩ := blk14 (HI.out.2.1.trans H.out.2.1)
            have HR := Lib.hid (And.intro hb1 hb2)
            clear hb1 hb2 hi
            go_wp2_with (first
              | (go_at_call 14; refine (HR.out.1 _ HI.out.1).mono ?_; rintro r w6 ⟨rfl, hB⟩; have x6 := (hB.block X HI.out.2.2.1).trans (HI.out.2.1.trans H.out.2.1); obtain ⟨e0, e1, e2, e3, e4, e5, e6, e7, e8, e9, e10, e11, e12, e13⟩ := blk14 x6; have H6 := Lib.hid (And.intro (HI.out.1.trans (hB.mono (by have := HI.out.2.2.1; omega))) (show X < w6.heap.size from Nat.lt_of_lt_of_le HI.out.2.2.1 hB.size)); clear hB x6)
              | (go_at_call 15; refine (HR.out.2 _ H6.out.1).mono ?_; rintro r w7 ⟨rfl, hB⟩; have H7 := Lib.hid (H6.out.1.trans (hB.mono (by have := H6.out.2; omega))); clear hB))
            go_ret
            exact ⟨by first | rfl | simp, by first | exact H7.out | (rw [hX]; exact H7.out)⟩
end Go.Proofs.YtpbhfckefmboaaaGreatDoor.Ba
namespace Go.Proofs.YtpbhfckefmboaaaGreatDoor.Ba
open Go Go.RowKit Go.Lib Go.Base
theorem Tryz_info5w : (Tryz.prog.info? 5).map (fun i => (i.zero, i.size, i.bytes)) = some (some (.int .u8 0), 1, 1) := by kernel_rfl
set_option maxRecDepth 1000000 in
set_option maxHeartbeats 1600000 in
theorem cloneP (ba : Option Addr) (bn bc : Nat) (B : List Nat) (hb : B.length = bn) (hbn : bn ≤ 1000) (hB : ∀ x ∈ B, x < 256) (hne : ba ≠ none) (w : World) (hr : ∀ (j x : Nat), B[j]? = some x → ∃ bb bo, ba = some ⟨bb, bo, none⟩ ∧ w.cell? ⟨bb, bo + j, none⟩ = some (.int .u8 (x : Int))) : Calls Tryz.prog 62 #[.slice ba bn bc] w fun e w' => ∃ g cap C, e = .returned (.slice (some ⟨g, 0, none⟩) bn cap) ∧ bn ≤ cap ∧ w.heap.size ≤ g ∧ w'.heap[g]? = some (.cells C 5 (0, 0)) ∧ (∀ (j x : Nat), B[j]? = some x → C[j]? = some (.int .u8 (x : Int))) ∧ Below w.heap.size w w' := by
  obtain ⟨i0, hi, hz0, hz1, hz2⟩ := info_parts Tryz_info5w
  obtain ⟨ad, rfl⟩ : ∃ ad, ba = some ad := by cases ba with
    | none => exact absurd rfl hne
    | some ad => exact ⟨ad, rfl⟩
  go_enter Tryz.func62, Tryz.ntmps62
  have own0 : (w.alloc (.cells #[] 5)).ownsRow w.heap.size 5 1 (.slice (some ⟨w.heap.size, 0, none⟩) 0 0) 0 [] := by
    refine ⟨rfl, .inr ⟨w.heap.size, 0, #[], rfl, Nat.le_refl _, ?_, by simp, by unfold maxLen; omega, by simp, by simp⟩⟩
    exact heap_new _ _
  have he : Sem.run Tryz.prog (Go.binOp BinOp.eql 38 (Value.slice (some ad) bn bc) (Value.slice none 0 0)) w = .ok (.bool false) w := by first | rfl | kernel_rfl | simp [Go.binOp, go_sem]
  go_wp2_with (first
    | (rw [he]; go_wp2)
    | (at_builtin; refine wpList_append_own _ rfl _ _ 38 rfl w.heap.size 5 i0 _ 1 1 Tryz.underlying38 hi hz0 hz1 hz2 rfl (by decide) _ _ _ rfl own0 ad bn bc (B.map fun x : Nat => Value.int .u8 (x : Int)) rfl (by simp [hb]) ?k1 ?k2 ?k3 ?k4 ?k5 ?_))
  case k1 =>
    intro j u hj
    rw [List.getElem?_map] at hj
    obtain ⟨x, hx, rfl⟩ := Option.map_eq_some_iff.1 hj
    obtain ⟨bb, bo, e, hc⟩ := hr j x hx
    injection e with e
    subst e
    rw [Addr.add_lit]
    have hlt : bb < w.heap.size := World.block_lt_of_cell? w _ hc
    exact (Below.cell (p := ⟨bb, bo + j, none⟩) ((Below.refl w.heap.size w).alloc (Nat.le_refl _) (.cells #[] 5)) hlt).trans hc
  case k2 =>
    intro u hu
    obtain ⟨x, _, rfl⟩ := List.mem_map.1 hu
    rfl
  case k3 => unfold maxLen; omega
  case k4 => omega
  case k5 => simp
  intro v' w1 hown hgrow hv
  have HB := Lib.hid (show Below w.heap.size w w1 from ((Below.refl w.heap.size w).alloc (Nat.le_refl _) _).grown hgrow (by simp) (fun j hj => (own0.lt j hj).1))
  rcases hown with ⟨hl, ⟨rfl, -⟩ | ⟨g, cap, cur, rfl, hg, hob, hn, hm, hs, ht⟩⟩
  · exact absurd rfl hv
  have HC := Lib.hid (show ∀ (j x : Nat), B[j]? = some x → cur[j]? = some (Value.int .u8 (x : Int)) from fun j x hx => by
    have hj := (List.getElem?_eq_some_iff.1 hx).1
    have h1 : (cur.toList.take (bn * 1))[j]? = some (Value.int .u8 (x : Int)) := by rw [ht, List.getElem?_map, hx]; rfl
    rw [List.getElem?_take, if_pos (by omega), Array.getElem?_toList] at h1
    exact h1)
  clear hgrow hl ht hs
  go_wp2
  exact bodyPost_ret (v := .slice (some ⟨g, 0, none⟩) bn cap) (by simp [results, Tryz.results62, go_sem]) rfl ⟨g, cap, cur, rfl, hn, hg, hob, HC.out, HB.out⟩
end Go.Proofs.YtpbhfckefmboaaaGreatDoor.Ba
namespace Go.Proofs.YtpbhfckefmboaaaGreatDoor.Ba
open Go Go.RowKit Go.Lib Go.Base
theorem Tryz_info3 : (Tryz.prog.info? 3).map (fun i => (i.zero, i.size, i.bytes)) = some (some (.int .i64 0), 1, 8) := by kernel_rfl
set_option maxRecDepth 1000000 in
set_option maxHeartbeats 1600000 in
theorem maxMsg_any (l : Lg) (h : l.ok) (w : World) : Calls Tryz.prog 178 #[l.val] w fun e w' => e = .returned (.int .i64 (l.term / 8)) ∧ Below w.heap.size w w' := by
  have hb := h.bounds
  have c := fun W => at_any l h (l.term / 8) W
  clear h
  obtain ⟨base, term, mtu, subs, ini, ses, str⟩ := l
  unfold Lg.val at c ⊢
  dsimp only at c hb ⊢
  obtain ⟨q, hq⟩ : ∃ q, term / 8 = q := ⟨_, rfl⟩
  rw [hq] at c ⊢
  have k1 : IntKind.i64.wrap (term.tdiv 8) = q := by rw [IntKind.wrap_i64, Int.tdiv_eq_ediv_of_nonneg (by omega)]; omega
  obtain ⟨W1, hW1⟩ : ∃ W1, w.alloc (.cells #[.int .i64 base, .int .i64 term, .int .i64 mtu, .int .i64 subs, .int .i32 ini, .int .i32 ses, .int .i32 str] 23) = W1 := ⟨_, rfl⟩
  obtain ⟨A, hA⟩ : ∃ A, w.heap.size = A := ⟨_, rfl⟩
  have u0 : W1.heap[A]? = some (.cells #[.int .i64 base, .int .i64 term, .int .i64 mtu, .int .i64 subs, .int .i32 ini, .int .i32 ses, .int .i32 str] 23 (0, 0)) := by rw [← hW1, ← hA]; exact heap_new _ _
  have u1 : Below A w W1 := by rw [← hW1, ← hA]; exact (Below.refl _ _).alloc (Nat.le_refl _) _
  have HU := Lib.hid u1
  obtain ⟨b0, b1, b2, b3, b4, b5, b6⟩ := blk7 u0
  have hs1 : W1.heap.size = A + 1 := by rw [← hW1, ← hA]; simp
  go_enter Tryz.func178, Tryz.ntmps178
  go_wp2_with (go_at_call 50; refine (c _).mono ?_; clear c; rintro e w1 ⟨rfl, hB⟩; have HB := Lib.hid hB; clear hB)
  go_ret
  exact ⟨rfl, by rw [hA]; exact HU.out.trans (HB.out.mono (by omega))⟩
/-- the parts of a message: as long as most, and what is left -/
def cutsV (mtu : Int) : Nat → Int → List Value
  | 0, n => [.int .i64 n]
  | f + 1, n => if n > mtu then .int .i64 mtu :: cutsV mtu f (n - mtu) else [.int .i64 n]
theorem cutsV_long {mtu : Int} {f : Nat} {n : Int} (h : n > mtu) : cutsV mtu (f + 1) n = .int .i64 mtu :: cutsV mtu f (n - mtu) := by rw [cutsV, if_pos h]
theorem cutsV_short {mtu : Int} {f : Nat} {n : Int} (h : ¬ n > mtu) : cutsV mtu f n = [.int .i64 n] := by
  cases f with
  | zero => rfl
  | succ f => rw [cutsV, if_neg h]
set_option maxRecDepth 1000000 in
set_option maxHeartbeats 3200000 in
theorem cutsP (l : Lg) (h : l.ok) (hm : 32 ≤ l.mtu ∧ l.mtu ≤ 1024) (n : Nat) (hn : (n : Int) ≤ l.term / 8) (w : World) : Calls Tryz.prog 129 #[l.val, .int .i64 n] w fun e w' => ∃ v, e = .returned (.tuple #[v, .int .i64 0]) ∧ w'.ownsRow w.heap.size 3 1 v (cutsV l.mtu 40 n).length (cutsV l.mtu 40 n) ∧ Below w.heap.size w w' := by
  obtain ⟨i0, hi, hz0, hz1, hz2⟩ := info_parts Tryz_info3
  have hb := h.bounds
  have c36 := fun W => check_ok l h W
  have c181 := fun W => maxMsg_any l h W
  clear h
  obtain ⟨base, term, mtu, subs, ini, ses, str⟩ := l
  unfold Lg.val at c36 c181 ⊢
  dsimp only at c36 c181 hb hm hn ⊢
  obtain ⟨q, hq⟩ : ∃ q, term / 8 = q := ⟨_, rfl⟩
  have hq1 : q ≤ 1024 := by omega
  rw [hq] at c181 hn
  obtain ⟨W1, hW1⟩ : ∃ W1, w.alloc (.cells #[.int .i64 base, .int .i64 term, .int .i64 mtu, .int .i64 subs, .int .i32 ini, .int .i32 ses, .int .i32 str] 23) = W1 := ⟨_, rfl⟩
  obtain ⟨A, hA⟩ : ∃ A, w.heap.size = A := ⟨_, rfl⟩
  have u0 : W1.heap[A]? = some (.cells #[.int .i64 base, .int .i64 term, .int .i64 mtu, .int .i64 subs, .int .i32 ini, .int .i32 ses, .int .i32 str] 23 (0, 0)) := by rw [← hW1, ← hA]; exact heap_new _ _
  have u1 : Below A w W1 := by rw [← hW1, ← hA]; exact (Below.refl _ _).alloc (Nat.le_refl _) _
  have hs1 : W1.heap.size = A + 1 := by rw [← hW1, ← hA]; simp
  have HU := Lib.hid (And.intro u0 (And.intro u1 hs1))
  obtain ⟨b0, b1, b2, b3, b4, b5, b6⟩ := blk7 u0
  clear u0 u1 hs1
  have q0 : ¬ (n : Int) < 0 := by omega
  have q2 : ¬ (n : Int) > q := by omega
  go_enter Tryz.func129, Tryz.ntmps129
  go_wp2_with (first
    | (go_at_call 49; refine (c36 _).mono ?_; clear c36; rintro e w2 ⟨rfl, hB⟩
       have v0 := (hB.block A (by have := HU.out.2.2; omega)).trans HU.out.1
       obtain ⟨d0, d1, d2, d3, d4, d5, d6⟩ := blk7 v0
       have HB := Lib.hid (And.intro v0 (And.intro (HU.out.2.1.trans (hB.mono (by have := HU.out.2.2; omega))) (show A + 1 ≤ w2.heap.size from Nat.le_trans (Nat.le_of_eq HU.out.2.2.symm) hB.size)))
       clear hB v0)
    | (go_at_call 178; refine (c181 _).mono ?_; clear c181; rintro e w3 ⟨rfl, hB⟩
       have v0 := (hB.block A (by have := HB.out.2.2; omega)).trans HB.out.1
       obtain ⟨k0, k1, k2, k3, k4, k5, k6⟩ := blk7 v0
       have HC := Lib.hid (And.intro v0 (And.intro (HB.out.2.1.trans (hB.mono (by have := HB.out.2.2; omega))) (show A + 1 ≤ w3.heap.size from Nat.le_trans HB.out.2.2 hB.size)))
       clear hB v0))
  obtain ⟨M, rfl⟩ := Int.eq_ofNat_of_zero_le (show 0 ≤ mtu by omega)
  obtain ⟨blkA, hblk⟩ : ∃ o, Obj.cells #[.int .i64 base, .int .i64 term, .int .i64 (M : Int), .int .i64 subs, .int .i32 ini, .int .i32 ses, .int .i32 str] 23 (0, 0) = o := ⟨_, rfl⟩
  have HC2 := Lib.hid (show w3.heap[A]? = some blkA from hblk ▸ HC.out.1)
  go_loopw [1, 6] (fun x v wr => ∃ (m f : Nat) (dn : List Value), x = .int .i64 (m : Int) ∧ m ≤ n ∧ Hid (dn ++ cutsV M f m = cutsV M 40 n ∧ dn.length + f = 40 ∧ m ≤ 32 * f) ∧ wr.ownsRow (A + 1) 3 1 v dn.length dn ∧ Hid (wr.heap[A]? = some blkA ∧ Below A w wr ∧ A + 1 ≤ wr.heap.size)) (fun x _ _ => (intOf x).toNat)
  case atStart => exact ⟨n, 40, [], rfl, by omega, Lib.hid ⟨rfl, rfl, by omega⟩, World.ownsRow_nil _ _ _ _, Lib.hid ⟨HC2.out, HC.out.2.1, HC.out.2.2⟩⟩
  case round =>
    obtain ⟨m, f, dn, rfl, hmn, HR, hown, HW⟩ := hrel
    have v0 : wr.heap[A]? = some (.cells #[.int .i64 base, .int .i64 term, .int .i64 (M : Int), .int .i64 subs, .int .i32 ini, .int .i32 ses, .int .i32 str] 23 (0, 0)) := hblk ▸ HW.out.1
    obtain ⟨x0, x1, x2, x3, x4, x5, x6⟩ := blk7 v0
    have hsz := HW.out.2.2
    have hdn : dn.length ≤ 40 := by have := HR.out.2.1; omega
    have hal : (wr.alloc (.cells #[.int .i64 (M : Int)] 3)).heap.size = wr.heap.size + 1 := by simp
    clear v0
    by_cases hlt : m > M
    · have hlt1 : (m : Int) > (M : Int) := by omega
      have q1 : IntKind.i64.wrap ((m : Int) - (M : Int)) = ((m - M : Nat) : Int) := by rw [IntKind.wrap_i64]; omega
      go_wp2_with (first
        | (at_builtin; refine wpList_append_own _ rfl _ _ 60 rfl (A + 1) 3 i0 _ 1 8 Tryz.underlying60 hi hz0 hz1 hz2 rfl (by decide) _ _ _ rfl (hown.alloc _) ⟨wr.heap.size, 0, none⟩ 1 1 [.int .i64 (M : Int)] rfl rfl ?k1 ?k2 ?k3 ?k4 ?k5 ?_))
      case k1 =>
        intro j u hj
        rcases j with _ | j
        · injection hj with hj; subst hj; rw [show (⟨wr.heap.size, 0, none⟩ : Addr).add 0 = ⟨wr.heap.size, 0, none⟩ from Addr.add_lit _ _ _, World.cell?_alloc_at _ _ _ _ rfl]; rfl
        · cases hj
      case k2 => first | rfl | (intro u hu; simp at hu; subst hu; rfl)
      case k3 => unfold maxLen; omega
      case k4 => omega
      case k5 => simp; omega
      intro v' w4 hown' hgrow _
      have hB4 : Below (A + 1) wr w4 := ((Below.refl (A + 1) wr).alloc hsz (.cells #[.int .i64 (M : Int)] 3)).grown hgrow (by simp; omega) (fun j hj => (hown.lt j hj).1)
      have R := Lib.hid (show w4.ownsRow (A + 1) 3 1 v' (dn ++ [Value.int .i64 (M : Int)]).length (dn ++ [Value.int .i64 (M : Int)]) from by rw [List.length_append]; exact hown')
      have B := Lib.hid (show w4.heap[A]? = some blkA ∧ Below A w w4 ∧ A + 1 ≤ w4.heap.size from ⟨(hB4.block A (by omega)).trans HW.out.1, HW.out.2.1.trans (hB4.mono (by omega)), Nat.le_trans hsz hB4.size⟩)
      have v4 : w4.heap[A]? = some (.cells #[.int .i64 base, .int .i64 term, .int .i64 (M : Int), .int .i64 subs, .int .i32 ini, .int .i32 ses, .int .i32 str] 23 (0, 0)) := hblk ▸ B.out.1
      obtain ⟨y0, y1, y2, y3, y4, y5, y6⟩ := blk7 v4
      have HN := Lib.hid (show (dn ++ [Value.int .i64 (M : Int)]) ++ cutsV M (f - 1) ((m - M : Nat) : Int) = cutsV M 40 n ∧ (dn ++ [Value.int .i64 (M : Int)]).length + (f - 1) = 40 ∧ m - M ≤ 32 * (f - 1) from by
        obtain ⟨h1, h2, h3⟩ := HR.out
        obtain ⟨f', rfl⟩ : ∃ f', f = f' + 1 := ⟨f - 1, by omega⟩
        rw [cutsV_long hlt1] at h1
        refine ⟨?_, by simp; omega, by omega⟩
        rw [List.append_assoc, show ((m - M : Nat) : Int) = (m : Int) - M by omega]
        exact h1)
      clear hown' hgrow hown hB4 v4 hal hsz
      go_wp2
      go_roundw
      case rel => exact ⟨m - M, f - 1, _, rfl, by omega, HN, R.out, B⟩
      case measure => simp [intOf]; omega
    · have hlt1 : ¬ (m : Int) > (M : Int) := by omega
      go_wp2_with (first
        | (at_builtin; refine wpList_append_own _ rfl _ _ 60 rfl (A + 1) 3 i0 _ 1 8 Tryz.underlying60 hi hz0 hz1 hz2 rfl (by decide) _ _ _ rfl (hown.alloc _) ⟨wr.heap.size, 0, none⟩ 1 1 [.int .i64 (m : Int)] rfl rfl ?m1 ?m2 ?m3 ?m4 ?m5 ?_))
      case m2 => first | rfl | (intro u hu; simp at hu; subst hu; rfl)
      case m3 => unfold maxLen; omega
      case m4 => omega
      case m5 => omega
      intro v' w4 hown' hgrow _
      have hB4 : Below (A + 1) wr w4 := ((Below.refl (A + 1) wr).alloc hsz (.cells #[.int .i64 (m : Int)] 3)).grown hgrow (by simp; omega) (fun j hj => (hown.lt j hj).1)
      have hl : dn ++ [Value.int .i64 (m : Int)] = cutsV M 40 n := by
        have h1 := HR.out.1
        rw [cutsV_short (by omega)] at h1
        exact h1
      have R := Lib.hid (show w4.ownsRow A 3 1 v' (cutsV M 40 n).length (cutsV M 40 n) from by
        rw [← hl, List.length_append]
        obtain ⟨h1, h2⟩ := hown'
        refine ⟨h1, h2.imp id ?_⟩
        rintro ⟨g, cap, cur, e, hg, hr⟩
        exact ⟨g, cap, cur, e, by omega, hr⟩)
      have B := Lib.hid (show Below A w w4 from HW.out.2.1.trans (hB4.mono (by omega)))
      clear hown' hgrow hown hB4 hal hsz
      go_wp2
      exact bodyPost_ret (v := .tuple #[v', .int .i64 0]) (by simp [results, Tryz.results129, go_sem]) rfl ⟨v', rfl, by rw [hA]; exact ⟨R.out, B.out⟩⟩
end Go.Proofs.YtpbhfckefmboaaaGreatDoor.Ba
