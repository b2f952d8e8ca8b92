/- The document's Linear, walked. -/
import Derived.Test.YtkbbpjknakajeaaTRefP
namespace Go.Proofs.Ytkbbpjknakajeaa.Li
open Go.RowKit Go.Shelf Go.Sort
open Ex (rows dec mult arr_get count_row)
set_option maxHeartbeats 6400000 in
set_option maxRecDepth 1000000 in
theorem r_any (al : Option Addr) (cl : Nat) (l : Array QOp) (w : World) (hq : SliceOfQ w al l) (hn : l.size ≤ 10) : Calls Try.prog 10 #[.slice al l.size cl] w (LinRes l w) := by
  obtain ⟨t0, hi, hz0, hz1, hz2⟩ := info_parts info3n
  have h1 : ¬ (l.size : Int) > 10 := by omega
  have HQ := Lib.hid hq
  clear hq
  go_enter Try.func10, Try.ntmps10
  go_wp2
  go_loopw [15] (fun t wr => ∃ k : Nat, k ≤ l.size ∧ t = .int .i64 k ∧ Hid (Below w.heap.size w wr) ∧ Hid (∀ j : Nat, j < k → ¬ Odd l[j]!)) (fun t _ => l.size - (intOf t).toNat)
  case atStart => exact ⟨0, Nat.zero_le _, rfl, Lib.hid (Below.refl _ _), Lib.hid (fun j hj => by omega)⟩
  case round =>
    obtain ⟨k, hk, rfl, hB, hall⟩ := hrel
    by_cases hlt : k < l.size
    · obtain ⟨bl, ol, rfl, hbl, hr⟩ : ∃ b off, al = some ⟨b, off, none⟩ ∧ b < w.heap.size ∧ ReadsQ w b off l := by
        rcases HQ.out with h | h
        · omega
        · exact h
      obtain ⟨k0, k1, k2, k3⟩ := hr.below hbl hB.out k hlt
      have g1 : (k : Int) < (l.size : Int) := by omega
      have g2 : (0 : Int) ≤ (k : Int) := by omega
      obtain ⟨⟨pp, vv, ff, tt⟩, hx⟩ : ∃ x, l[k]! = x := ⟨_, rfl⟩
      rw [hx] at k0 k1 k2 k3
      dsimp only at k0 k1 k2 k3
      have HX := Lib.hid hx
      have HB2 := Lib.hid (hB.out.alloc hB.out.size (.cells #[.bool pp, .int .i64 vv, .int .i64 ff, .int .i64 tt] 58))
      clear hx hr hB
      have keep : ¬ Odd ⟨pp, vv, ff, tt⟩ → ∀ j : Nat, j < k + 1 → ¬ Odd l[j]! := fun hno j hj => by
        rcases Nat.lt_or_ge j k with h | h
        · exact hall.out j h
        · obtain rfl : j = k := by omega
          rw [HX.out]; exact hno
      have KEEP := Lib.hid keep
      clear keep
      by_cases e1 : tt < ff
      · have HO := Lib.hid (show Odd ⟨pp, vv, ff, tt⟩ from .inl e1)
        go_wp2
        go_ret3
        exact ⟨HB2.out, .inr (.inl ⟨hn, ⟨k, hlt, by rw [HX.out]; exact HO.out⟩, rfl⟩)⟩
      · have hd : decide (tt < ff) = false := by simpa using e1
        cases pp with
        | true =>
          by_cases e2 : vv < 0
          · have HO := Lib.hid (show Odd ⟨true, vv, ff, tt⟩ from .inr ⟨rfl, e2⟩)
            go_wp2
            go_ret3
            exact ⟨HB2.out, .inr (.inl ⟨hn, ⟨k, hlt, by rw [HX.out]; exact HO.out⟩, rfl⟩)⟩
          · have hd2 : decide (vv < 0) = false := by simpa using e2
            have HO := Lib.hid (show ¬ Odd ⟨true, vv, ff, tt⟩ from fun h => h.elim e1 (fun h => e2 h.2))
            go_wp2
            go_roundw
            case rel => exact ⟨k + 1, by omega, by go_num, HB2, Lib.hid (KEEP.out HO.out)⟩
            case measure => simp [intOf]; omega
        | false =>
          have HO := Lib.hid (show ¬ Odd ⟨false, vv, ff, tt⟩ from fun h => h.elim e1 (fun h => by cases h.1))
          go_wp2
          go_roundw
          case rel => exact ⟨k + 1, by omega, by go_num, HB2, Lib.hid (KEEP.out HO.out)⟩
          case measure => simp [intOf]; omega
    · obtain rfl : k = l.size := by omega
      have hno : ¬ AnyOdd l := fun ⟨j, hj, ho⟩ => hall.out j hj ho
      have HNO := Lib.hid hno
      clear hno hall
      go_wp2
      go_loopw [7, 36] (fun v t wr2 => ∃ k : Nat, k ≤ l.size ∧ t = .int .i64 k ∧ wr2.ownsRow w.heap.size 3 1 v k (idL k) ∧ Hid (Below w.heap.size w wr2)) (fun _ t _ => l.size - (intOf t).toNat)
      case atStart => exact ⟨0, Nat.zero_le _, rfl, World.ownsRow_nil _ _ _ _, hB⟩
      case round =>
        obtain ⟨k, hk2, rfl, hown, hB2⟩ := hrel
        by_cases hlt2 : k < l.size
        · have g1 : (k : Int) < (l.size : Int) := by omega
          have hsz := hB2.out.size
          go_wp2_with (first
            | (at_builtin
               refine wpList_append_own_at _ rfl _ _ 24 rfl w.heap.size 3 t0 (.int .i64 0) 1 8 Try.underlying24 hi hz0 hz1 hz2 rfl (by decide) _ _ _ rfl (hown.alloc _) ⟨wr.heap.size, 0, none⟩ 1 1 [.int .i64 k] rfl rfl (cell_one_new wr (.int .i64 (k : Int)) 3) (by intro u hu; simp at hu; subst hu; rfl) (Nat.le_trans (by omega : k + 1 ≤ 100) (by decide)) (by omega) (by simp; omega) ?_
               intro v' w3 hown' hgrow3 hnil3 hat3
               have X := Lib.hid (show w3.ownsRow w.heap.size 3 1 v' (k + 1) (idL k ++ [.int .i64 k]) ∧ Below w.heap.size w w3 from ⟨hown', (hB2.out.alloc hsz _).grown hgrow3 (by simp; omega) (fun j hj => (hown.lt _ hj).1)⟩)
               clear hown' hgrow3 hnil3 hat3))
          go_roundw
          case rel => exact ⟨k + 1, by omega, by go_num, by rw [idL_snoc]; exact X.out.1, Lib.hid X.out.2⟩
          case measure => simp [intOf]; omega
        · obtain rfl : k = l.size := by omega
          have hfst : (allRows l.size)[0]? = some ((List.range l.size).map fun i : Nat => (i : Int)) := by
            have := (good_all l.size).head
            rw [idRow_first, List.head?_eq_getElem?] at this
            exact this
          have hR0 : 0 < (allRows l.size).length := (List.getElem?_eq_some_iff.1 hfst).1
          have hAt : AtRow l w 0 u7 wr := by
            obtain ⟨ao, vc, rfl, hle, hao⟩ := own_val hown
            refine ⟨_, ao, vc, hfst, by simp, ?_, by simpa using hle, by simp [fnd], hB2.out⟩
            rcases Nat.eq_zero_or_pos l.size with h0 | h0
            · exact .inl (by simpa using h0)
            · obtain ⟨g, rfl⟩ := hao h0
              have : wr.ownsRow w.heap.size 3 1 (.slice (some ⟨g, 0, none⟩) ((List.range l.size).map fun i : Nat => (i : Int)).length vc) ((List.range l.size).map fun i : Nat => (i : Int)).length (((List.range l.size).map fun i : Nat => (i : Int)).map (Value.int .i64)) := by
                simpa [idL, Function.comp_def] using hown
              exact slice_own this
          have HAT := Lib.hid (And.intro hAt hR0)
          clear hfst hR0 hAt hown hB2 hB
          go_wp2
          go_loopg [7, 9] ((allRows l.size).length + 1) (fun gk v7 v9 wr => (∃ k, gk = (allRows l.size).length - k + 1 ∧ k < (allRows l.size).length ∧ v9 = .bool true ∧ Hid (AtRow l w k v7 wr)) ∨ (gk = 0 ∧ v9 = .bool false ∧ Hid (fnd (fun t => G l t) (allRows l.size) = none ∧ Below w.heap.size w wr)))
          case atStart => exact .inl ⟨0, rfl, HAT.out.2, rfl, Lib.hid HAT.out.1⟩
          case round =>
            rcases hrel with ⟨k, rfl, hkl, rfl, hA⟩ | ⟨rfl, rfl, hE⟩
            · obtain ⟨r, a, c, hk, hv, hs, hc, hf, hB⟩ := hA.out
              have hr : r ∈ allRows l.size := List.mem_of_getElem? hk
              subst hv
              have F14 := (row_calls (cl := cl) (HQ.out.below hB) hr hs hc hn).1
              have F33 := Lib.hid (fun W (hW : Below wr.heap.size wr W) => (row_calls (cl := cl) (HQ.out.below (hB.trans (hW.mono hB.size))) hr (hs.below hW) hc hn).2)
              have HD := Lib.hid (And.intro hk (And.intro hs (And.intro hc (And.intro hf hB))))
              clear hk hr hs hc hf hB
              go_wp2_with (first
                | (go_at_call 14; refine F14.mono ?_; clear F14; rintro e w2 ⟨r1, rfl, hr1, hB2⟩; have p33 := F33.out w2 hB2; have HR1 := Lib.hid (And.intro hr1 hB2); clear hr1 hB2; cases r1)
                | (go_at_call 33; refine p33.mono ?_; clear p33; rintro e w3 ⟨r2, rfl, hr2, hB3⟩; have HR2 := Lib.hid (And.intro hr2 hB3); clear hr2 hB3; cases r2))
              · refine (next_row hA.out HR1.out.2 hn (fun r' hr' hG => ?_)).mono ?_
                · obtain rfl : r = r' := Option.some.inj (HD.out.1.symm.trans hr')
                  have := HR1.out.1.2 hG.1
                  cases this
                · rintro e w5 (⟨v', rfl, hlt5, hAt5⟩ | ⟨v', rfl, hno5, hB5⟩)
                  · have HAt := Lib.hid (And.intro hAt5 hlt5)
                    clear hAt5 hlt5
                    go_wp2
                    go_roundg ((allRows l.size).length - (k + 1) + 1)
                    case measure => omega
                    case rel => exact .inl ⟨k + 1, rfl, HAt.out.2, rfl, Lib.hid HAt.out.1⟩
                  · have HE := Lib.hid (And.intro hno5 hB5)
                    clear hno5 hB5
                    go_wp2
                    go_roundg 0
                    case measure => omega
                    case rel => exact .inr ⟨rfl, rfl, HE⟩
              · refine (next_row hA.out (HR1.out.2.trans (HR2.out.2.mono HR1.out.2.size)) hn (fun r' hr' hG => ?_)).mono ?_
                · obtain rfl : r = r' := Option.some.inj (HD.out.1.symm.trans hr')
                  have := HR2.out.1.2 hG.2
                  cases this
                · rintro e w5 (⟨v', rfl, hlt5, hAt5⟩ | ⟨v', rfl, hno5, hB5⟩)
                  · have HAt := Lib.hid (And.intro hAt5 hlt5)
                    clear hAt5 hlt5
                    go_wp2
                    go_roundg ((allRows l.size).length - (k + 1) + 1)
                    case measure => omega
                    case rel => exact .inl ⟨k + 1, rfl, HAt.out.2, rfl, Lib.hid HAt.out.1⟩
                  · have HE := Lib.hid (And.intro hno5 hB5)
                    clear hno5 hB5
                    go_wp2
                    go_roundg 0
                    case measure => omega
                    case rel => exact .inr ⟨rfl, rfl, HE⟩
              · go_ret3
                have hB3 := HD.out.2.2.2.2.trans ((HR1.out.2.trans (HR2.out.2.mono HR1.out.2.size)).mono HD.out.2.2.2.2.size)
                have hG : G l r := ⟨by have := HR1.out.1; simpa using this, by have := HR2.out.1; simpa using this⟩
                exact ⟨hB3, .inr (.inr (.inr ⟨hn, HNO.out, r, a, c, by rw [goal_all]; exact fnd_at HD.out.1 HD.out.2.2.2.1 hG, rfl, HD.out.2.1.below (HR1.out.2.trans (HR2.out.2.mono HR1.out.2.size)), HD.out.2.2.1⟩))⟩
            · go_wp2
              go_ret3
              exact ⟨hE.out.2, .inr (.inr (.inl ⟨hn, HNO.out, by rw [goal_all]; exact hE.out.1, rfl⟩))⟩
end Go.Proofs.Ytkbbpjknakajeaa.Li
