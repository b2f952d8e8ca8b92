/- The document's set: a name's place ahead of the row's end. -/
import Derived.Test.YtkbbpjknakajeaaPAt0
namespace Go.Proofs.Ytkbbpjknakajeaa
open Go Go.AE Go.RowKit
set_option maxRecDepth 1000000 in
set_option maxHeartbeats 6400000 in
theorem at_mid (k0 : Nat) (rb : Nat) (L : List (ByteArray × Int)) (v : Value) (B : Nat) (w : World) (hc : w.cell? ⟨rb, 0, none⟩ = some v) (hf : w.frozen? ⟨rb, 0, none⟩ = false) (hown : w.ownsRow B 52 2 v L.length (flatG L)) (hL : L.length ≤ 64)
    (s : ByteArray) (hs : s.size ≤ 300) (hk0 : k0 < L.length) (hne0 : ∀ y, L[k0]? = some y → lessB y.1 s = false) :
    Calls Try.prog 22 #[.pointer (some ⟨rb, 0, none⟩), .string s] w fun x w' => AtRes w rb L s x w' := by
  obtain ⟨i0, hi, hz0, hz1, hz2⟩ := info_parts info52'
  obtain ⟨ao, cap, rfl, hcap, hao⟩ : ∃ ao cap, v = .slice ao L.length cap ∧ L.length ≤ cap ∧ ∀ k x, L[k]? = some x → ∃ g, ao = some ⟨g, 0, none⟩ ∧ w.cell? ⟨g, k * 2, none⟩ = some (.string x.1) := by
    rcases hown.2 with ⟨rfl, h0⟩ | ⟨g, cap, cur, rfl, hb, hg, hn, _⟩
    · exact ⟨none, 0, by rw [h0], by omega, fun k x h => absurd (List.getElem?_eq_some_iff.1 h).1 (by omega)⟩
    · exact ⟨_, cap, rfl, hn, fun k x h => ⟨g, rfl, (cells_of hown h).1⟩⟩
  have HOWN := Lib.hid (And.intro hown hf)
  have HAO := Lib.hid hao
  clear hown hf hao
  by_cases hnm : IsNm s
  · go_enter Try.func22, Try.ntmps22
    go_wp2_with (go_at_call 28; refine (isNameR_any s hs _).mono ?_; rintro e w ⟨⟨b, rfl, hb⟩, rfl⟩; obtain rfl : b = true := hb.2 hnm; clear hb)
    go_loopw [6] (fun c wr => ∃ k : Nat, wr = w ∧ c = .int .i64 k ∧ k ≤ k0 ∧ Hid (Ahead L s k)) (fun c _ => L.length - (intOf c).toNat)
    case atStart => exact ⟨0, rfl, rfl, Nat.zero_le _, Lib.hid (fun j x hj => by omega)⟩
    case round =>
      obtain ⟨k, hwr, rfl, hk, hA⟩ := hrel
      subst hwr
      have hlt : k < L.length := by omega
      have hk9 := hk
      have hk : k ≤ L.length := by omega
      · obtain ⟨x, hx⟩ : ∃ x, L[k]? = some x := ⟨L[k], List.getElem?_eq_getElem hlt⟩
        obtain ⟨g, rfl, hcg⟩ := HAO.out k x hx
        have h1 : (k : Int) < (L.length : Int) := by omega
        have h2 : (0 : Int) ≤ (k : Int) := by omega
        obtain ⟨nm, hnm1⟩ : ∃ nm, x.1 = nm := ⟨_, rfl⟩
        rw [hnm1] at hcg
        cases hb : lessB nm s with
        | true =>
          have hkk : k < k0 := by
            rcases Nat.lt_or_ge k k0 with h | h
            · exact h
            · obtain rfl : k = k0 := by omega
              have := hne0 x hx
              rw [hnm1, hb] at this; cases this
          have hA' : Ahead L s (k + 1) := fun j y hj hy => by
            rcases Nat.lt_or_ge j k with h | h
            · exact hA.out j y h hy
            · obtain rfl : j = k := by omega
              rw [hx] at hy
              obtain rfl := Option.some.inj hy
              rw [hnm1]; exact hb
          have HA' := Lib.hid hA'
          have hb' : Op.bytesLess nm.toList s.toList = true := hb
          clear hA' hx hnm1
          go_wp2
          go_roundw
          case rel => exact ⟨k + 1, by first | trivial | rfl, by go_num, by omega, HA'⟩
          case measure => simp [intOf]; omega
        | false =>
          have hb' : Op.bytesLess nm.toList s.toList = false := hb
          by_cases he : s = nm
          · have HX := Lib.hid (And.intro hx (hnm1.trans he.symm))
            clear hx hnm1
            subst he
            go_wp2
            go_ret2
            exact .there (z := x.2) hnm (by rw [HX.out.1, ← HX.out.2]) (by rfl) (by rfl)
          · have he' : (nm.toList == s.toList) = false := by
              rw [beq_eq_false_iff_ne]
              intro h
              rw [ByteArray.toList_eq, ByteArray.toList_eq] at h
              apply he
              obtain ⟨⟨a⟩⟩ := s
              obtain ⟨⟨b⟩⟩ := nm
              simp only at h
              rw [← h]
            have hne : ∀ y, L[k]? = some y → y.1 ≠ s ∧ lessB y.1 s = false := fun y hy => by
              rw [hx] at hy
              obtain rfl := Option.some.inj hy
              rw [hnm1]; exact ⟨fun h => he h.symm, hb⟩
            have HN := Lib.hid hne
            clear hne hx hnm1 he
            by_cases h64 : (L.length : Int) ≥ 64
            · go_wp2
              go_ret2
              exact .many hnm hA.out HN.out hk (by omega) (by rfl) (by rfl)
            · go_wp2_with fail
              have HI := Lib.hid (And.intro hi (And.intro hz0 (And.intro hz1 hz2)))
              have hrb : rb < wr.heap.size := by have := World.block_lt_of_cell? wr ⟨rb, 0, none⟩ hc; simpa using this
              have HRB := Lib.hid hrb
              have HR0 : wr.drew.cell? ⟨rb, 0, none⟩ = some (.slice (some ⟨g, 0, none⟩) L.length cap) := hc
              have hne0 : ¬ rb = wr.heap.size := by omega
              have hne1 : ¬ rb = wr.heap.size + 1 := by omega
              have hlt0 : rb < wr.heap.size := hrb
              have hlt1 : rb < wr.heap.size + 1 := by omega
              have HK := Lib.hid (And.intro hL (And.intro hk hcap))
              have HM := Lib.hid (And.intro hnm (And.intro hA.out (And.intro HN.out h64)))
              have HT : Hid ((flatG (L.take k)).length = k * 2 ∧ ((some ⟨g, 0, none⟩ : Option Addr) = none → k = 0) ∧ (∀ W : World, RowKit.Below wr.heap.size wr W → ∀ ad, (some ⟨g, 0, none⟩ : Option Addr) = some ad → ∀ j u, (flatG (L.take k))[j]? = some u → W.cell? (ad.add j) = some u) ∧ 0 + k ≤ maxLen ∧ (0 + k) * 24 ≤ 140737488355328) := Lib.hid (ht_of HOWN.out.1 hk hL)
              have HT2 : Hid (0 + k + 1 ≤ maxLen ∧ (0 + k + 1) * 24 ≤ 140737488355328) := Lib.hid ⟨Nat.le_trans (by omega : 0 + k + 1 ≤ 100) (by decide), by omega⟩
              have HT3 : Hid ((flatG (L.drop k)).length = (L.length - k) * 2 ∧ ((some ⟨g, k * 2, none⟩ : Option Addr) = none → L.length - k = 0) ∧ (∀ W : World, RowKit.Below wr.heap.size wr W → ∀ ad, (some ⟨g, k * 2, none⟩ : Option Addr) = some ad → ∀ j u, (flatG (L.drop k))[j]? = some u → W.cell? (ad.add j) = some u) ∧ (∀ u ∈ flatG (L.drop k), u.oneCell' = true) ∧ 0 + k + 1 + (L.length - k) ≤ maxLen ∧ (0 + k + 1 + (L.length - k)) * 24 ≤ 140737488355328) := Lib.hid ⟨(by rw [flatG_len]; simp), (fun h => by cases h), (fun W hb ad had => by
                cases had
                exact news_old HOWN.out.1 hb _ (fun j u hj => by rw [← flatG_drop, List.getElem?_drop] at hj; exact hj)), flatG_one _, Nat.le_trans (by omega : 0 + k + 1 + (L.length - k) ≤ 100) (by decide), (by omega)⟩
              have hkc : k ≤ cap := by omega
              have hck : ¬ cap = k := by omega
              have hkc2 : (k : Int) ≤ (L.length : Int) := by omega
              clear HN hA hi hz0 hz1 hz2 hs hnm hL hrb hcg hb hb' he'
              go_region_law
                (first
                  | (refine step_app _ rfl (.tmp 58) (.tmp 64) 39 rfl wr.heap.size 52 i0 (.agg #[.string ⟨#[]⟩, .int .i64 0]) 2 24 Try.underlying39 HI.out.1 HI.out.2.1 HI.out.2.2.1 HI.out.2.2.2 rfl (by decide) _ 0 [] (by rfl) (by first | exact (own_new _ (by simp) (by simp)).drew | exact ((own_new _ (by simp) (by simp)).alloc _).drew) (some ⟨g, 0, none⟩) k cap (flatG (L.take k)) (by rfl) HT.out.1 HT.out.2.1 (HT.out.2.2.1 _ (by first | exact ((Below.refl _ _).alloc (Nat.le_refl _) _).drew | exact (((Below.refl _ _).alloc (Nat.le_refl _) _).alloc (by simp) _).drew)) (flatG_one _) HT.out.2.2.2.1 HT.out.2.2.2.2 (by first | (simp; done) | (simp; omega)) ?_
                     intro v1 w1 hO1 hG1 hA1
                     have hB1 : RowKit.Below wr.heap.size wr w1 := (show RowKit.Below wr.heap.size wr _ from (by first | exact ((Below.refl _ _).alloc (Nat.le_refl _) _).drew | exact (((Below.refl _ _).alloc (Nat.le_refl _) _).alloc (by simp) _).drew)).grown hG1 (by first | (simp; done) | (simp; omega)) (by intro j hj; cases hj; first | exact Nat.le_refl _ | (simp; done))
                     have HR1 := (hB1.cell (p := ⟨rb, 0, none⟩) HRB.out).trans hc
                     have HR1a := fun o => ((hB1.alloc hB1.size o).cell (p := ⟨rb, 0, none⟩) HRB.out).trans hc
                     have hs1 : ¬ rb = w1.heap.size := (by have := hB1.size; have := HRB.out; omega)
                     have hs1b : rb < w1.heap.size := (by have := hB1.size; have := HRB.out; omega)
                     have HG1 := Lib.hid (show World.grownBy _ w1 (some _) from hG1)
                     clear hG1 hA1)
                  | (refine step_app _ rfl (.tmp 65) (.tmp 68) 39 rfl wr.heap.size 52 i0 (.agg #[.string ⟨#[]⟩, .int .i64 0]) 2 24 Try.underlying39 HI.out.1 HI.out.2.1 HI.out.2.2.1 HI.out.2.2.2 rfl (by decide) v1 (0 + k) ([] ++ flatG (L.take k)) (by rfl) (by first | exact hO1 | exact hO1.alloc _) (some ⟨_, 0, none⟩) 1 1 [.string s, .int .i64 0] (by rfl) rfl (by intro h; cases h) (by intro ad h; cases h; first | exact two_new _ (by rfl) s 0 | exact news_grown HG1.out (by first | (simp; done) | (simp; omega)) (two_new _ (by simp) s 0) | exact news_grown HG1.out (by first | (simp; done) | (simp; omega)) (news_alloc _ (two_new _ (by simp) s 0))) (by intro u hu; simp at hu; rcases hu with rfl | rfl <;> rfl) HT2.out.1 HT2.out.2 (by first | exact hB1.size | exact (hB1.alloc hB1.size _).size) ?_
                     intro v2 w2 hO2 hG2 hA2
                     have hB2 : RowKit.Below wr.heap.size wr w2 := (by first | exact hB1.grown hG2 hB1.size (fun j hj => (hO1.lt j hj).1) | exact (hB1.alloc hB1.size _).grown hG2 (hB1.alloc hB1.size _).size (fun j hj => (hO1.lt j hj).1))
                     have HR2 := (hB2.cell (p := ⟨rb, 0, none⟩) HRB.out).trans hc
                     clear hG2 hA2 HG1)
                  | (refine step_app _ rfl (.tmp 69) (.tmp 75) 39 rfl wr.heap.size 52 i0 (.agg #[.string ⟨#[]⟩, .int .i64 0]) 2 24 Try.underlying39 HI.out.1 HI.out.2.1 HI.out.2.2.1 HI.out.2.2.2 rfl (by decide) v2 (0 + k + 1) ([] ++ flatG (L.take k) ++ [.string s, .int .i64 0]) (by rfl) hO2 (some ⟨g, k * 2, none⟩) (L.length - k) _ (flatG (L.drop k)) (by rfl) HT3.out.1 HT3.out.2.1 (HT3.out.2.2.1 _ hB2) HT3.out.2.2.2.1 HT3.out.2.2.2.2.1 HT3.out.2.2.2.2.2 hB2.size ?_
                     intro v3 w3 hO3 hG3 hA3
                     have hO3 := fin_own hk hO3
                     obtain ⟨g3, cap3, rfl, hb3, hl3⟩ := hO3.form (by omega)
                     have hB3 : RowKit.Below wr.heap.size wr w3 := hB2.grown hG3 hB2.size (fun j hj => (hO2.lt j hj).1)
                     have HR3 := (hB3.cell (p := ⟨rb, 0, none⟩) HRB.out).trans hc
                     have HF3 := (hB3.frozen (p := ⟨rb, 0, none⟩) HRB.out).trans HOWN.out.2
                     clear hG3 hA3))
              all_goals go_wp2
              all_goals go_ret2
              all_goals exact .new HM.out.1 HM.out.2.1 HM.out.2.2.1 hk (by have := HM.out.2.2.2; omega) (by rfl) ⟨w3, _, hB3, hO3, by rfl⟩
  · go_enter Try.func22, Try.ntmps22
    go_wp2_with (go_at_call 28; refine (isNameR_any s hs _).mono ?_; rintro e w1 ⟨⟨b, rfl, hb⟩, rfl⟩; obtain rfl : b = false := (Bool.eq_false_iff.2 (fun h => hnm (hb.1 h))); clear hb)
    go_ret2
    exact .form hnm rfl rfl
end Go.Proofs.Ytkbbpjknakajeaa
