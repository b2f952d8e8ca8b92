/- The walk of ExplorePicks at a row that holds something. -/
import Derived.Test.YtiapphhldedckaaLawP
namespace Go.Proofs.Ytiapphhldedckaa
open Go.RowKit
theorem evc_one (z : Int) : ∀ u ∈ evc z, u.oneCell' = true := by
  intro u hu; simp [evc] at hu; rcases hu with rfl | rfl | rfl | rfl | rfl | rfl | rfl | rfl <;> rfl
theorem evc_get (z : Int) {j : Nat} {u : Value} (hj : (evc z)[j]? = some u) : #[Value.int .i64 0, .int .i64 z, .int .i64 0, .int .i64 0, .int .i64 0, .int .i64 0, .int .u64 0, .int .u64 0, .slice none 0 0, .int .u64 0, .bool false, .slice none 0 0][j]? = some u := by
  simpa [evc] using hj
theorem take_snoc' (zs : List Int) (k : Nat) (z : Int) (hz : zs.getD k 0 = z) (hk : k < zs.length) : zs.take (k + 1) = zs.take k ++ [z] := by
  rw [take_snoc zs k hk, hz]
set_option maxHeartbeats 4000000 in
set_option maxRecDepth 1000000 in
theorem law_some (b off len cap : Nat) (zs : List Int) (w : World) (h0 : 0 < len) (hl : len ≤ 200) (hz : len ≤ zs.length) (hb : b < w.heap.size)
    (hc : ∀ j, j < zs.length → w.cell? ⟨b, off + j, none⟩ = some (.int .i64 (zs.getD j 0))) : Calls Try.prog 5 #[.slice (some ⟨b, off, none⟩) len cap] w fun e w' => e = .returned (.bool true) ∧ Below w.heap.size w w' := by
  obtain ⟨i0, hi, hz0, hz1, hz2⟩ := info_parts Try.info50
  have HC := Lib.hid hc
  clear hc
  have hlen : (zs.take len).length = len := by simp; omega
  have HL := Lib.hid hlen
  clear hlen
  go_enter Try.func5, Try.ntmps5
  go_wp2_with fail
  refine (fixed_ok _).mono ?_
  rintro e w1 ⟨rfl, hb1⟩
  have H1 := Lib.hid hb1
  clear hb1
  go_wp2_with fail
  refine (picks18 b off len cap zs w1 hl hz (Nat.lt_of_lt_of_le hb H1.out.size) (fun j hj => (H1.out.cell hb).trans (HC.out j hj))).mono ?_
  rintro e w2 ⟨v, rfl, hown, hb2⟩
  obtain ⟨g, lc, rfl, hg1, hg2⟩ := own_some hown h0
  have H2 := Lib.hid hb2
  have HO := Lib.hid hown
  clear hb2 hown
  go_wp2_with fail
  go_loopw [4, 19] (fun v i wr => ∃ k : Nat, k ≤ len ∧ i = .int .i64 k ∧ wr.ownsRow w2.heap.size 50 12 v k (evs (zs.take k)) ∧ Below w2.heap.size w2 wr)
    (fun _ i _ => len - (intOf i).toNat)
  case atStart => exact ⟨0, Nat.zero_le _, rfl, World.ownsRow_nil _ _ _ _, Below.refl _ _⟩
  case round =>
    obtain ⟨k, hk, rfl, hown, hnx⟩ := hrel
    by_cases hlt : k < len
    · obtain ⟨z, hzz⟩ : ∃ z, zs.getD k 0 = z := ⟨_, rfl⟩
      have hcell : ∀ j, j < 3 → wr.cell? ⟨g, k * 3 + j, none⟩ = [Value.int .i64 0, .int .i64 z, .int .i64 0][j]? := by
        intro j hj
        have h1 := pk_get (zs.take len) k j (by rw [HL.out]; exact hlt) hj
        have h2 : (zs.take len).getD k 0 = zs.getD k 0 := by simp [List.getD, List.getElem?_take_of_lt hlt]
        rw [h2, hzz] at h1
        have h3 : ∃ v, [Value.int .i64 0, .int .i64 z, .int .i64 0][j]? = some v := ⟨_, List.getElem?_eq_getElem (by simpa using hj)⟩
        obtain ⟨v, h3⟩ := h3
        rw [h3]
        exact (hnx.cell hg2).trans (own_cell HO.out (h1.trans h3))
      have c0 := hcell 0 (by omega)
      have c1 := hcell 1 (by omega)
      have c2 := hcell 2 (by omega)
      simp only [Nat.add_zero, List.getElem?_cons_zero, List.getElem?_cons_succ] at c0 c1 c2
      have hk0 : (0 : Int) ≤ (k : Int) := by omega
      have hk1 : (k : Int) < (len : Int) := by omega
      have hsz := hnx.size
      have HZ := Lib.hid hzz
      clear hcell hzz
      go_wp2_with (first
        | (at_builtin; refine wpList_append_own _ rfl _ _ 40 rfl w2.heap.size 50 i0 _ 12 128 Try.underlying40 hi hz0 hz1 hz2 rfl (by decide) _ _ _ rfl ((hown.alloc _).alloc _) ⟨wr.heap.size + 1, 0, none⟩ 1 1 (evc z) rfl rfl ?c1 ?c2 ?c3 ?c4 ?c5 ?_))
      case c1 =>
        intro j u hj
        rw [addr_add', Nat.zero_add, World.cell?_alloc_at _ _ _ _ (by simp)]
        exact evc_get z hj
      case c2 => exact evc_one z
      case c3 => unfold maxLen; omega
      case c4 => omega
      case c5 => simp; omega
      intro v' w9 hown' hgrow _
      have R : w9.ownsRow w2.heap.size 50 12 v' (k + 1) (evs (zs.take (k + 1))) := by
        rw [take_snoc' zs k z HZ.out (by omega), evs_snoc]; exact hown'
      have B1 : Below w2.heap.size w2 w9 := ((hnx.alloc (by omega) _).alloc (by simp; omega) _).grown hgrow (by simp; omega) (fun j hj => by have := (hown.lt j hj).1; omega)
      clear hown' hgrow hown c0 c1 c2 hnx
      go_wp2
      go_roundw
      case rel => exact ⟨k + 1, by omega, by go_num, R, B1⟩
      case measure => simp [intOf]; omega
    · obtain rfl : len = k := by omega
      obtain ⟨ga, ca, rfl, ha1, ha2⟩ := own_some hown h0
      obtain ⟨w3, rfl⟩ : ∃ w3 : World, w3 = wr := ⟨_, rfl⟩
      have H3 := Lib.hid hnx
      have HA := Lib.hid hown
      clear hnx hown
      go_wp2_with fail
      refine (picks19 b off len cap zs w3 hl hz (Nat.lt_of_lt_of_le hb (Nat.le_trans H1.out.size (Nat.le_trans H2.out.size H3.out.size))) (fun j hj => (H3.out.cell (Nat.lt_of_lt_of_le hb (Nat.le_trans H1.out.size H2.out.size))).trans ((H2.out.cell (Nat.lt_of_lt_of_le hb H1.out.size)).trans ((H1.out.cell hb).trans (HC.out j hj))))).mono ?_
      rintro e w4 ⟨v, rfl, hown, hb4⟩
      obtain ⟨g2, lc2, rfl, hg3, hg4⟩ := own_some hown h0
      have H4 := Lib.hid hb4
      have HO2 := Lib.hid hown
      clear hb4 hown
      go_wp2_with fail
      go_loopw [5, 32] (fun v i wr => ∃ k : Nat, k ≤ len ∧ i = .int .i64 k ∧ wr.ownsRow w4.heap.size 50 12 v k (evs (zs.take k)) ∧ Below w4.heap.size w4 wr)
        (fun _ i _ => len - (intOf i).toNat)
      case atStart => exact ⟨0, Nat.zero_le _, rfl, World.ownsRow_nil _ _ _ _, Below.refl _ _⟩
      case round =>
        obtain ⟨k, hk, rfl, hown, hnx⟩ := hrel
        by_cases hlt : k < len
        · obtain ⟨z, hzz⟩ : ∃ z, zs.getD k 0 = z := ⟨_, rfl⟩
          have hcell : ∀ j, j < 3 → wr.cell? ⟨g2, k * 3 + j, none⟩ = [Value.int .i64 0, .int .i64 z, .int .i64 0][j]? := by
            intro j hj
            have h1 := pk_get (zs.take len) k j (by rw [HL.out]; exact hlt) hj
            have h2 : (zs.take len).getD k 0 = zs.getD k 0 := by simp [List.getD, List.getElem?_take_of_lt hlt]
            rw [h2, hzz] at h1
            have h3 : ∃ v, [Value.int .i64 0, .int .i64 z, .int .i64 0][j]? = some v := ⟨_, List.getElem?_eq_getElem (by simpa using hj)⟩
            obtain ⟨v, h3⟩ := h3
            rw [h3]
            exact (hnx.cell hg4).trans (own_cell HO2.out (h1.trans h3))
          have c0 := hcell 0 (by omega)
          have c1 := hcell 1 (by omega)
          have c2 := hcell 2 (by omega)
          simp only [Nat.add_zero, List.getElem?_cons_zero, List.getElem?_cons_succ] at c0 c1 c2
          have hk0 : (0 : Int) ≤ (k : Int) := by omega
          have hk1 : (k : Int) < (len : Int) := by omega
          have hsz := hnx.size
          have HZ := Lib.hid hzz
          clear hcell hzz
          go_wp2_with (first
            | (at_builtin; refine wpList_append_own _ rfl _ _ 40 rfl w4.heap.size 50 i0 _ 12 128 Try.underlying40 hi hz0 hz1 hz2 rfl (by decide) _ _ _ rfl ((hown.alloc _).alloc _) ⟨wr.heap.size + 1, 0, none⟩ 1 1 (evc z) rfl rfl ?c1 ?c2 ?c3 ?c4 ?c5 ?_))
          case c1 =>
            intro j u hj
            rw [addr_add', Nat.zero_add, World.cell?_alloc_at _ _ _ _ (by simp)]
            exact evc_get z hj
          case c2 => exact evc_one z
          case c3 => unfold maxLen; omega
          case c4 => omega
          case c5 => simp; omega
          intro v' w9 hown' hgrow _
          have R : w9.ownsRow w4.heap.size 50 12 v' (k + 1) (evs (zs.take (k + 1))) := by
            rw [take_snoc' zs k z HZ.out (by omega), evs_snoc]; exact hown'
          have B1 : Below w4.heap.size w4 w9 := ((hnx.alloc (by omega) _).alloc (by simp; omega) _).grown hgrow (by simp; omega) (fun j hj => by have := (hown.lt j hj).1; omega)
          clear hown' hgrow hown c0 c1 c2 hnx
          go_wp2
          go_roundw
          case rel => exact ⟨k + 1, by omega, by go_num, R, B1⟩
          case measure => simp [intOf]; omega
        · obtain rfl : len = k := by omega
          obtain ⟨gb, cb, rfl, hb1', hb2'⟩ := own_some hown h0
          have hownA := own_kept (own_kept HA.out H4.out) (hnx.mono (by exact Nat.le_refl _))
          have hsz := hnx.size
          have hfin := hnx
          have H5 := Lib.hid hnx
          have HB := Lib.hid hown
          have HA2 := Lib.hid hownA
          have hga : ga < wr.heap.size := Nat.lt_of_lt_of_le ha2 (Nat.le_trans H4.out.size H5.out.size)
          clear hfin hnx hown hownA
          go_wp2_with fail
          refine (same20 ga gb len ca cb zs wr hl hga hb2' (fun k hk => ⟨_, here_own HA2.out HB.out (by rw [HL.out]; exact hk)⟩)).mono ?_
          rintro e w6 ⟨rfl, hb6⟩
          have HF : Below w.heap.size w w6 := H1.out.trans ((H2.out.mono H1.out.size).trans ((H3.out.mono (Nat.le_trans H1.out.size H2.out.size)).trans ((H4.out.mono (Nat.le_trans H1.out.size (Nat.le_trans H2.out.size H3.out.size))).trans ((H5.out.mono (Nat.le_trans H1.out.size (Nat.le_trans H2.out.size (Nat.le_trans H3.out.size H4.out.size)))).trans (hb6.mono (Nat.le_trans H1.out.size (Nat.le_trans H2.out.size (Nat.le_trans H3.out.size (Nat.le_trans H4.out.size H5.out.size)))))))))
          go_wp2
          go_ret
          exact ⟨rfl, HF⟩
end Go.Proofs.Ytiapphhldedckaa
