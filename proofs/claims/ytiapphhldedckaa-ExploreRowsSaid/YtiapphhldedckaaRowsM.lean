/- The walk of ExploreRows: the law. -/
import Derived.Test.YtiapphhldedckaaRowsL
namespace Go.Proofs.Ytiapphhldedckaa.Ex
open Go.RowKit Go.Sort Nx
set_option maxHeartbeats 3200000 in
set_option maxRecDepth 1000000 in
theorem lawR_long (a : Option Addr) (len cap : Nat) (n : Int) (w : World) (hl : 20 < len) (hm : len ≤ maxLen) : Calls Try.prog 3 #[.slice a len cap, .int .i64 n] w fun e w' => e = .returned (.bool true) ∧ Below w.heap.size w w' := by
  unfold maxLen at hm
  go_enter Try.func3, Try.ntmps3
  go_wp2_with fail
  refine (fixed_ok _).mono ?_
  rintro e w1 ⟨rfl, hb1⟩
  go_wp2
  go_ret
  exact ⟨rfl, hb1⟩
set_option maxHeartbeats 3200000 in
set_option maxRecDepth 1000000 in
theorem lawR_bad (a : Option Addr) (cap : Nat) (d : Array Int) (n : Int) (w : World) (hs : d.size ≤ 20) (h : SliceOf w a d) (hf : ¬ Right d) : Calls Try.prog 3 #[.slice a d.size cap, .int .i64 n] w fun e w' => e = .returned (.bool true) ∧ Below w.heap.size w w' := by
  have HH := Lib.hid h
  have HF := Lib.hid hf
  have hd : decide ((20 : Int) < (d.size : Int)) = false := by simp; omega
  clear h hf
  go_enter Try.func3, Try.ntmps3
  go_wp2_with fail
  refine (fixed_ok _).mono ?_
  rintro e w1 ⟨rfl, hb1⟩
  have H1 := Lib.hid hb1
  have HS := Lib.hid (HH.out.below hb1)
  clear hb1
  go_wp2_with fail
  refine (First_bad a cap d w1 hs HS.out HF.out).mono ?_
  rintro e w' ⟨rfl, rfl⟩
  go_wp2_with fail
  refine (Count_bad a cap d w1 hs HS.out HF.out).mono ?_
  rintro e w' ⟨rfl, rfl⟩
  go_wp2_with fail
  refine (Nth_bad a cap d n w1 hs HS.out HF.out).mono ?_
  rintro e w' ⟨rfl, rfl⟩
  go_wp2_with fail
  refine (right_any a cap d w1 hs HS.out).mono ?_
  rintro e w' ⟨r, rfl, rfl, hr⟩
  have hr' : r = false := by
    cases r with
    | false => rfl
    | true => exact absurd (hr.1 rfl) HF.out
  subst hr'
  clear hr
  go_wp2
  go_ret
  exact ⟨rfl, H1.out⟩
theorem row_len {c : List Nat} {l : List Int} (h : l ∈ rows c.sum c) : l.length = (firstRow c).length := (perm_of_counts (count_row c.sum c l rfl h) (count_first c)).length_eq
/-- what both Nths come to -/
theorem nth_both {n : Int} {d : Array Int} {w w4 w5 w6 : World} {vb : Value} {g : Int} {e : Ending} (hb : Below w4.heap.size w4 w5) (hn : NthAny n d w vb g w4) (h7 : (nats d).sum ≤ 7) (hr : NthRRes (rows (nats d).sum (nats d)) n w5 e w6) :
    ∃ (vc : Value) (ok : Bool) (row : List Int), e = .returned (.tuple #[vc, .bool ok]) ∧ Held w6 vb row ∧ Held w6 vc row ∧ row.length ≤ 9000 ∧ ((ok = true ∧ g = 0) ∨ (ok = false ∧ g = 2)) ∧ Below w5.heap.size w5 w6 := by
  obtain ⟨r, hc, hr5⟩ := cnt_small h7
  have hL := cnt_rows hc
  have hF : r < FAR := by unfold FAR; omega
  rcases hr with ⟨⟨vc, row, h0, hrow, rfl, hh⟩ | ⟨hoff, rfl⟩, hb6⟩
  · have hlt := (List.getElem?_eq_some_iff.1 hrow).1
    obtain ⟨hg, row', hrow', hh'⟩ := hn.on r hc hF h0 (by omega)
    rw [hrow] at hrow'
    cases hrow'
    exact ⟨vc, true, row, rfl, (hh'.below hb).below hb6, hh, by have := (run_small h7).short row (List.mem_of_getElem? hrow); omega, .inl ⟨rfl, hg⟩, hb6⟩
  · have ho : Off n d := by
      unfold Off
      rw [hc]
      simp only [Option.getD_some]
      omega
    obtain ⟨rfl, hg⟩ := hn.off ho
    exact ⟨_, false, [], rfl, .inl ⟨rfl, none, 0, rfl⟩, .inl ⟨rfl, none, 0, rfl⟩, by simp, .inr ⟨rfl, hg⟩, hb6⟩
set_option maxHeartbeats 3200000 in
set_option maxRecDepth 1000000 in
theorem lawR_ok (a : Option Addr) (cap : Nat) (d : Array Int) (n : Int) (w : World) (h : SliceOf w a d) (hf : Right d) : Calls Try.prog 3 #[.slice a d.size cap, .int .i64 n] w fun e w' => e = .returned (.bool true) ∧ Below w.heap.size w w' := by
  have h8 := hf.1
  have HH := Lib.hid h
  have HF := Lib.hid hf
  have hd : decide ((20 : Int) < (d.size : Int)) = false := by simp; omega
  obtain ⟨k, hk⟩ : ∃ k, (cnt (nats d)).getD FAR = k := ⟨_, rfl⟩
  have hk1 : 1 ≤ k ∧ k ≤ FAR := by
    rw [← hk]
    cases hc : cnt (nats d) with
    | none => exact ⟨by simp [FAR], Nat.le_refl _⟩
    | some r => exact ⟨cnt_pos hc, cnt_le hc⟩
  have HK := Lib.hid hk
  have HK1 := Lib.hid hk1
  clear h hf hk hk1
  go_enter Try.func3, Try.ntmps3
  go_wp2_with fail
  refine (fixed_ok _).mono ?_
  rintro e w1 ⟨rfl, hb1⟩
  have H1 := Lib.hid hb1
  have HS := Lib.hid (HH.out.below hb1)
  clear hb1
  go_wp2_with fail
  refine (First_ok a cap d w1 HS.out HF.out).mono ?_
  rintro e w2 ⟨va, rfl, hra, hb2⟩
  have H2 := Lib.hid hb2
  have HA := Lib.hid (Held.of_row hra)
  have HS2 := Lib.hid (HS.out.below hb2)
  obtain ⟨A, ca, rfl⟩ := HA.out.form
  clear hra hb2
  go_wp2_with fail
  refine (Count_ok a cap d w2 HS2.out HF.out).mono ?_
  rintro e w' ⟨rfl, m3, rfl⟩
  rw [HK.out]
  go_wp2_with fail
  refine (Nth_any a cap d n (w2.drewN m3) HS2.out HF.out).mono ?_
  rintro e w4 ⟨vb, g, rfl, hnth⟩
  have HN := Lib.hid hnth
  have hb4 : Below w2.heap.size w2 w4 := below_of_drewN hnth.below
  have H4 := Lib.hid hb4
  have HS4 := Lib.hid (HS2.out.below hb4)
  have HA4 := Lib.hid (HA.out.below hb4)
  clear hnth hb4
  go_wp2_with fail
  refine (right_any a cap d w4 (by omega) HS4.out).mono ?_
  rintro e w' ⟨r, rfl, rfl, hr⟩
  have hr' : r = true := hr.2 HF.out
  subst hr'
  clear hr
  go_wp2_with fail
  refine (FirstR_ok a cap d w4 HS4.out HF.out).mono ?_
  rintro e w5 ⟨vf, rfl, hrf, hb5⟩
  have H5 := Lib.hid hb5
  have HFR := Lib.hid (Held.of_row hrf)
  have HS5 := Lib.hid (HS4.out.below hb5)
  have HA5 := Lib.hid (HA4.out.below hb5)
  have hlf : (firstRow (nats d)).length ≤ 9000 := by
    have h1 := hrf.1
    have h2 := sum_le HF.out
    have h3 : (firstRow (nats d)).length = (nats d).sum := by
      unfold firstRow
      rw [List.length_flatMap]
      have h1 : (List.range' 0 (nats d).length).map (fun i => (List.replicate ((nats d).getD i 0) (i : Int)).length) = (List.range' 0 (nats d).length).map fun i => (nats d).getD i 0 := by
        apply List.map_congr_left; intro i _; simp
      rw [h1, sum_range (nats d) (nats d).length 0 (by omega), List.drop_zero]
    omega
  have HLF := Lib.hid hlf
  clear hrf hb5 hlf
  go_wp2_with fail
  refine (same_held HLF.out HA5.out HFR.out).mono ?_
  rintro e w' ⟨rfl, m6, rfl⟩
  go_wp2_with fail
  refine (small_any a cap d (w5.drewN m6) HS5.out HF.out).mono ?_
  rintro e w' ⟨r, rfl, rfl, hr⟩
  have HR := Lib.hid hr
  have HW5 : Hid (Below w.heap.size w (w5.drewN m6)) := Lib.hid (below_drewN (H1.out.trans ((H2.out.mono H1.out.size).trans ((H4.out.mono (Nat.le_trans H1.out.size H2.out.size)).trans (H5.out.mono (Nat.le_trans H1.out.size (Nat.le_trans H2.out.size H4.out.size)))))) _)
  clear hr
  cases r with
  | false =>
    have e1 : decide ((1 : Int) ≤ (k : Int)) = true := by have := HK1.out.1; simp; omega
    have e2 : decide ((k : Int) ≤ 4611686018427387904) = true := decide_eq_true (far_ge HK1.out.2)
    go_wp2
    go_ret
    exact ⟨rfl, HW5.out⟩
  | true =>
    have h7 := HR.out rfl
    have H7 := Lib.hid h7
    clear h7
    have hkL : k = (rows (nats d).sum (nats d)).length := by
      obtain ⟨r, hc, _⟩ := cnt_small H7.out
      have h1 := HK.out
      rw [hc] at h1
      simp at h1
      rw [← h1]; exact cnt_rows hc
    have hrun : Run (rows (nats d).sum (nats d)) := run_small H7.out
    have hhead : (rows (nats d).sum (nats d))[0]? = some (firstRow (nats d)) := by rw [← List.head?_eq_getElem?]; exact (good _ _ rfl).head
    obtain ⟨R, hR⟩ : ∃ R, rows (nats d).sum (nats d) = R := ⟨_, rfl⟩
    rw [hR] at hkL hrun hhead
    subst hkL
    have HRun := Lib.hid hrun
    have HHead := Lib.hid hhead
    have HRR := Lib.hid hR
    have hlen := hrun.len
    have hpos : 1 ≤ R.length := (List.getElem?_eq_some_iff.1 hhead).1
    clear hrun hhead hR
    go_wp2_with fail
    refine (NthR_ok a cap d n (w5.drewN m6) HS5.out HF.out H7.out).mono ?_
    intro e w6 hnr
    obtain ⟨vc, ok, row, rfl, hvb, hvc, hrl, hok, hb6⟩ := nth_both (below_drewN H5.out m6) HN.out H7.out hnr
    have H6 := Lib.hid hb6
    have HVB := Lib.hid hvb
    have HVC := Lib.hid hvc
    have HS6 : Hid (SliceOf w6 a d) := Lib.hid ((SliceOf.drewN HS5.out m6).below hb6)
    have HA6 : Hid (Held w6 (.slice A (firstRow (nats d)).length ca) (firstRow (nats d))) := Lib.hid ((HA5.out.drewN m6).below hb6)
    have HRL := Lib.hid hrl
    have HW6 : Hid (Below w.heap.size w w6) := Lib.hid (HW5.out.trans (hb6.mono HW5.out.size))
    clear hnr hvb hvc hb6 hrl
    rcases hok with ⟨rfl, rfl⟩ | ⟨rfl, rfl⟩
    all_goals
      go_wp2_with fail
      refine (CountR_ok a cap d w6 HS6.out HF.out H7.out).mono ?_
      rintro e w7 ⟨rfl, hb7⟩
      rw [HRR.out]
      have HVB7 := Lib.hid (HVB.out.below hb7)
      have HVC7 := Lib.hid (HVC.out.below hb7)
      have HA7 := Lib.hid (HA6.out.below hb7)
      have HW7 : Hid (Below w.heap.size w w7) := Lib.hid (HW6.out.trans (hb7.mono HW6.out.size))
      clear hb7
      go_wp2_with fail
      refine (same_held HRL.out HVB7.out HVC7.out).mono ?_
      rintro e w' ⟨rfl, m8, rfl⟩
      go_wp2_with fail
      refine (step16 HRun.out HHead.out (HA7.out.drewN m8)).mono ?_
      rintro e w9 ⟨v9, b9, rfl, hat, hb9⟩
      have HAt := Lib.hid (And.intro hat (HW7.out.trans ((below_of_drewN hb9).mono HW7.out.size)))
      clear hat hb9
      go_wp2_with fail
      go_loopw [13, 14, 15] (fun s13 s14 s15 wr => ∃ (j : Nat) (b : Bool), 1 ≤ j ∧ j ≤ R.length ∧ s15 = .bool b ∧ s13 = .int .i64 j ∧ Hid (At R j wr s14 b ∧ Below w.heap.size w wr)) (fun s _ _ _ => R.length + 1 - (intOf s).toNat)
      case atStart => exact ⟨1, b9, Nat.le_refl _, hpos, rfl, rfl, HAt⟩
      case round =>
        obtain ⟨j, b, hj1, hj2, rfl, rfl, H⟩ := hrel
        rcases H.out.1 with ⟨l, hl, rfl, hh⟩ | ⟨hjL, rfl, hv⟩
        · have hlt := (List.getElem?_eq_some_iff.1 hl).1
          have hll : l.length = (firstRow (nats d)).length := by
            have hm := List.mem_of_getElem? hl
            rw [← HRR.out] at hm
            exact row_len hm
          obtain ⟨A', c', rfl⟩ := hh.form
          have hne : ((l.length : Int) != ((firstRow (nats d)).length : Int)) = false := by rw [hll]; simp
          have HL := Lib.hid hl
          have HHl := Lib.hid hh
          clear hl hh hll
          have hgt : ¬ (R.length : Int) < (j : Int) + 1 := by omega
          go_wp2_with fail
          refine (step16 HRun.out HL.out HHl.out).mono ?_
          rintro e w10 ⟨v2, b2, rfl, hat2, hb2⟩
          have HNew := Lib.hid (And.intro hat2 (H.out.2.trans (hb2.mono H.out.2.size)))
          clear hat2 hb2
          go_wp2
          go_roundw
          case rel => exact ⟨j + 1, b2, by omega, by omega, rfl, by go_num, HNew⟩
          case measure => simp [intOf]; omega
        · clear hv
          have HB := H.out.2
          have HB2 := Lib.hid HB
          clear HB H
          obtain rfl := hjL
          go_wp2
          go_ret
          exact ⟨rfl, HB2.out⟩
end Go.Proofs.Ytiapphhldedckaa.Ex
