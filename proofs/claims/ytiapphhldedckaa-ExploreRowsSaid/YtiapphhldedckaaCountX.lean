/- What the program's count, Count and sum answer, and the document's Right. -/
import Derived.Test.YtiapphhldedckaaChooseW
namespace Go.Proofs.Ytiapphhldedckaa.Ex
open Go.RowKit Go.Sort Nx
/-- the counts as numbers -/
def nats (d : Array Int) : List Nat := d.toList.map Int.toNat
theorem nats_length (d : Array Int) : (nats d).length = d.size := by simp [nats]
theorem nats_drop (d : Array Int) (k : Nat) (h : k < d.size) : (nats d).drop k = (d[k]!).toNat :: (nats d).drop (k + 1) := by
  unfold nats
  rw [List.drop_eq_getElem_cons (by simpa using h), getElem!_pos d k h]
  simp
theorem nats_get (d : Array Int) (k : Nat) : (nats d).getD k 0 = (d[k]!).toNat := by
  unfold nats
  by_cases h : k < d.size
  · rw [getElem!_pos d k h]; simp [List.getD, h]
  · rw [getElem!_neg d k h]; simp [List.getD, List.getElem?_eq_none (Nat.le_of_not_lt h)]
theorem fine_nat {d : Array Int} (h : Fine d) {k : Nat} (hk : k < d.size) : ∃ n : Nat, d[k]! = n ∧ n ≤ 64 := by
  have := h k hk
  unfold Odd at this
  exact ⟨(d[k]!).toNat, by omega, by omega⟩
theorem far_div (y : Nat) : (4611686018427387904 : Int) / (y : Int) = ((FAR / y : Nat) : Int) := by rw [far_cast]; exact (Int.natCast_ediv _ _).symm
set_option maxHeartbeats 3200000 in
set_option maxRecDepth 1000000 in
theorem count23 (b off cap : Nat) (d : Array Int) (w : World) (h8 : d.size ≤ 8) (hf : Fine d) (hr : Reads w b off d) :
    Calls Try.prog 23 #[.slice (some ⟨b, off, none⟩) d.size cap] w fun e w' => e = .returned (.int .i64 (((cnt (nats d)).getD FAR : Nat) : Int)) ∧ ∃ m, w' = w.drewN m := by
  have HR := Lib.hid hr
  have HF := Lib.hid hf
  clear hr hf
  go_enter Try.func23, Try.ntmps23
  go_wp2_with fail
  go_loopw [3, 4, 10] (fun s3 s4 s10 wr => ∃ (k v s m : Nat), k ≤ d.size ∧ s ≤ 64 * k ∧ s3 = .int .i64 v ∧ s4 = .int .i64 s ∧ s10 = .int .i64 k ∧ wr = w.drewN m ∧ Hid (0 < v ∧ v ≤ FAR ∧ cnt (nats d) = cntLoop ((nats d).drop k) v s)) (fun _ _ s _ => d.size - (intOf s).toNat)
  case atStart => exact ⟨0, 1, 0, 0, Nat.zero_le _, by omega, rfl, rfl, rfl, rfl, Lib.hid ⟨by omega, by unfold FAR; omega, rfl⟩⟩
  case round =>
    obtain ⟨k, v, s, m, hk, hs, rfl, rfl, rfl, rfl, H⟩ := hrel
    by_cases hlt : k < d.size
    · obtain ⟨n, hn, hn64⟩ := fine_nat HF.out hlt
      have ck := HR.out k hlt
      rw [hn] at ck
      have h1 : (k : Int) < (d.size : Int) := by omega
      have h0 : (0 : Int) ≤ (k : Int) := by omega
      have hcn : cnt (nats d) = match choose (s + n) n with
          | none => none
          | some x => if FAR ≤ v ∨ FAR / x < v then none else cntLoop ((nats d).drop (k + 1)) (v * x) (s + n) := by
        rw [H.out.2.2, nats_drop d k hlt, hn, Int.toNat_natCast]; rfl
      have HC := Lib.hid hcn
      clear hcn hn
      have hb1 : (s : Int) ≤ 520 := by omega
      have hb2 : (n : Int) ≤ 64 := by omega
      go_wp2_with fail
      have hsn : (s : Int) + (n : Int) = ((s + n : Nat) : Int) := by omega
      rw [hsn]
      clear hsn
      refine (choose32 (s + n) n (w.drewN m) (by omega) (by omega)).mono ?_
      rintro e w' ⟨rfl, m2, rfl⟩
      obtain ⟨y, hy⟩ : ∃ y : Nat, (choose (s + n) n).getD FAR = y := ⟨_, rfl⟩
      rw [hy]
      have HY := Lib.hid hy
      have hyF : y ≤ FAR := by
        rw [← hy]
        cases hc : choose (s + n) n with
        | none => exact Nat.le_refl _
        | some x => have := (choose_bd hc).2; simp; omega
      have hy0 : 0 < y := by
        rw [← hy]
        cases hc : choose (s + n) n with
        | none => simp [FAR]
        | some x => exact (choose_bd hc).1
      clear hy
      by_cases hA : FAR ≤ v ∨ FAR ≤ y ∨ FAR / y < v
      · have hfin : cnt (nats d) = none := by
          rw [HC.out]
          cases hc : choose (s + n) n with
          | none => rfl
          | some x =>
            have h2 := HY.out
            rw [hc] at h2
            simp at h2
            subst h2
            have := (choose_bd hc).2
            exact if_pos (by omega)
        have HFin := Lib.hid hfin
        clear hfin hyF
        obtain ⟨q, hq⟩ : ∃ q : Nat, FAR / y = q := ⟨_, rfl⟩
        have e1 : (4611686018427387904 : Int) / (y : Int) = (q : Int) := by rw [far_div, hq]
        rw [hq] at hA
        have hy1 : (0 : Int) < (y : Int) := by omega
        by_cases c1 : FAR ≤ v
        · have d1 : decide ((4611686018427387904 : Int) ≤ (v : Int)) = true := decide_eq_true ((far_le v).2 c1)
          clear c1 hA hq
          go_wp2
          go_ret
          exact ⟨by rw [HFin.out]; rfl, _, rfl⟩
        · have d1 : decide ((4611686018427387904 : Int) ≤ (v : Int)) = false := decide_eq_false (fun h => c1 ((far_le v).1 h))
          by_cases c2 : FAR ≤ y
          · have d2 : decide ((4611686018427387904 : Int) ≤ (y : Int)) = true := decide_eq_true ((far_le y).2 c2)
            clear c1 c2 hA hq
            go_wp2
            go_ret
            exact ⟨by rw [HFin.out]; rfl, _, rfl⟩
          · have d2 : decide ((4611686018427387904 : Int) ≤ (y : Int)) = false := decide_eq_false (fun h => c2 ((far_le y).1 h))
            have c3 : (q : Int) < (v : Int) := by omega
            clear c1 c2 hA hq
            go_wp2
            go_ret
            exact ⟨by rw [HFin.out]; rfl, _, rfl⟩
      · have hfin : cnt (nats d) = cntLoop ((nats d).drop (k + 1)) (v * y) (s + n) := by
          rw [HC.out]
          cases hc : choose (s + n) n with
          | none =>
            have h2 := HY.out
            rw [hc] at h2
            simp at h2
            omega
          | some x =>
            have h2 := HY.out
            rw [hc] at h2
            simp at h2
            subst h2
            exact if_neg (by omega)
        have HFin := Lib.hid hfin
        clear hfin hyF
        have hvy : v * y ≤ FAR := by
          have h3 : v ≤ FAR / y := by omega
          exact Nat.le_trans (Nat.mul_le_mul_right _ h3) (Nat.div_mul_le_self _ _)
        have hvy0 : 0 < v * y := Nat.mul_pos H.out.1 hy0
        obtain ⟨q, hq⟩ : ∃ q : Nat, FAR / y = q := ⟨_, rfl⟩
        have e1 : (4611686018427387904 : Int) / (y : Int) = (q : Int) := by rw [far_div, hq]
        rw [hq] at hA
        have hy1 : (0 : Int) < (y : Int) := by omega
        have d1 : decide ((4611686018427387904 : Int) ≤ (v : Int)) = false := decide_eq_false (fun h => hA (.inl ((far_le v).1 h)))
        have d2 : decide ((4611686018427387904 : Int) ≤ (y : Int)) = false := decide_eq_false (fun h => hA (.inr (.inl ((far_le y).1 h))))
        have c3 : ¬ (q : Int) < (v : Int) := by omega
        obtain ⟨p, hp⟩ : ∃ p : Nat, v * y = p := ⟨_, rfl⟩
        have e2 : wrap64 ((v : Int) * (y : Int)) = (p : Int) := wrap_small (by rw [← hp, Int.natCast_mul]) (by rw [← hp]; exact Nat.le_trans hvy (Nat.le_add_right _ _))
        have HP := Lib.hid hp
        have HVY := Lib.hid hvy
        have HVY0 := Lib.hid hvy0
        clear hA hq hp hvy hvy0
        go_wp2
        go_roundw
        case rel => exact ⟨k + 1, p, s + n, m + m2, by omega, by omega, by rw [e2], by go_num, by go_num, by simp, Lib.hid ⟨by rw [← HP.out]; exact HVY0.out, by rw [← HP.out]; exact HVY.out, by rw [HFin.out, HP.out]⟩⟩
        case measure => simp [intOf]; omega
    · obtain rfl : k = d.size := by omega
      have hfin : cnt (nats d) = some v := by
        rw [H.out.2.2, List.drop_of_length_le (by rw [nats_length]; exact Nat.le_refl _)]; rfl
      have HFin := Lib.hid hfin
      clear hfin
      go_wp2
      go_ret
      exact ⟨by rw [HFin.out]; rfl, m, rfl⟩
theorem cnt_nil : cnt [] = some 1 := rfl
set_option maxHeartbeats 1600000 in
set_option maxRecDepth 1000000 in
theorem count_zero (a : Option Addr) (cap : Nat) (w : World) : Calls Try.prog 23 #[.slice a 0 cap] w fun e w' => e = .returned (.int .i64 1) ∧ ∃ m, w' = w.drewN m := by
  go_enter Try.func23, Try.ntmps23
  go_wp2
  refine wp_loop_rounds 1 ?_
  rw [rounds_succ]
  go_wp2
  go_ret
  exact ⟨rfl, 0, rfl⟩
theorem count_any (a : Option Addr) (cap : Nat) (d : Array Int) (w : World) (h8 : d.size ≤ 8) (hf : Fine d) (h : SliceOf w a d) :
    Calls Try.prog 23 #[.slice a d.size cap] w fun e w' => e = .returned (.int .i64 (((cnt (nats d)).getD FAR : Nat) : Int)) ∧ ∃ m, w' = w.drewN m := by
  rcases h with h | ⟨b, off, rfl, _, hr⟩
  · have e : nats d = [] := List.eq_nil_of_length_eq_zero (by rw [nats_length]; exact h)
    rw [e, h]
    exact count_zero a cap w
  · exact count23 b off cap d w h8 hf hr
set_option maxHeartbeats 1600000 in
set_option maxRecDepth 1000000 in
theorem Count_ok (a : Option Addr) (cap : Nat) (d : Array Int) (w : World) (h : SliceOf w a d) (hf : Right d) :
    Calls Try.prog 8 #[.slice a d.size cap] w fun e w' => e = .returned (.tuple #[.int .i64 (((cnt (nats d)).getD FAR : Nat) : Int), .int .i64 0]) ∧ ∃ m, w' = w.drewN m := by
  have h8 := hf.1
  have HH := Lib.hid h
  have HF := Lib.hid hf
  clear h hf
  go_enter Try.func8, Try.ntmps8
  go_wp2_with fail
  refine (check_ok a cap d w HH.out HF.out).mono ?_
  rintro e w' ⟨rfl, rfl⟩
  go_wp2_with fail
  refine (count_any a cap d w h8 HF.out.2 HH.out).mono ?_
  rintro e w' ⟨rfl, m, rfl⟩
  go_wp2
  go_ret2
  exact ⟨rfl, m, rfl⟩
set_option maxHeartbeats 1600000 in
set_option maxRecDepth 1000000 in
theorem Count_bad (a : Option Addr) (cap : Nat) (d : Array Int) (w : World) (hs : d.size ≤ 20) (h : SliceOf w a d) (hf : ¬ Right d) :
    Calls Try.prog 8 #[.slice a d.size cap] w fun e w' => e = .returned (.tuple #[.int .i64 0, .int .i64 1]) ∧ w = w' := by
  have HH := Lib.hid h
  have HF := Lib.hid hf
  clear h hf
  go_enter Try.func8, Try.ntmps8
  go_wp2_with fail
  refine (check_bad a cap d w hs HH.out HF.out).mono ?_
  rintro e w' ⟨rfl, rfl⟩
  go_wp2
  go_ret2
  exact ⟨rfl, rfl⟩
/-! ### sum -/
set_option maxHeartbeats 1600000 in
set_option maxRecDepth 1000000 in
theorem sum25 (b off cap : Nat) (d : Array Int) (w : World) (h8 : d.size ≤ 8) (hf : Fine d) (hr : Reads w b off d) :
    Calls Try.prog 25 #[.slice (some ⟨b, off, none⟩) d.size cap] w fun e w' => e = .returned (.int .i64 (((nats d).sum : Nat) : Int)) ∧ w = w' := by
  have HR := Lib.hid hr
  have HF := Lib.hid hf
  clear hr hf
  go_enter Try.func25, Try.ntmps25
  go_wp2_with fail
  go_loop [3, 8] (fun s3 s8 => ∃ (k s : Nat), k ≤ d.size ∧ s ≤ 64 * k ∧ s3 = .int .i64 s ∧ s8 = .int .i64 k ∧ Hid (s + ((nats d).drop k).sum = (nats d).sum)) (fun _ s => d.size - (intOf s).toNat)
  case atStart => exact ⟨0, 0, Nat.zero_le _, by omega, rfl, rfl, Lib.hid (by simp)⟩
  case round =>
    obtain ⟨k, s, hk, hs, rfl, rfl, H⟩ := hrel
    by_cases hlt : k < d.size
    · obtain ⟨n, hn, hn64⟩ := fine_nat HF.out hlt
      have ck := HR.out k hlt
      rw [hn] at ck
      have h1 : (k : Int) < (d.size : Int) := by omega
      have h0 : (0 : Int) ≤ (k : Int) := by omega
      have hnew : s + n + ((nats d).drop (k + 1)).sum = (nats d).sum := by
        have := H.out
        rw [nats_drop d k hlt, hn, Int.toNat_natCast, List.sum_cons] at this
        omega
      have HNew := Lib.hid hnew
      have hb1 : (s : Int) ≤ 520 := by omega
      have hb2 : (n : Int) ≤ 64 := by omega
      clear hnew hn
      go_wp2
      go_round
      case rel => exact ⟨k + 1, s + n, by omega, by omega, by go_num, by go_num, HNew⟩
      case measure => simp [intOf]; omega
    · obtain rfl : k = d.size := by omega
      have hfin : (nats d).sum = s := by
        have := H.out
        rw [List.drop_of_length_le (by rw [nats_length]; exact Nat.le_refl _)] at this
        simpa using this.symm
      have HFin := Lib.hid hfin
      clear hfin
      go_wp2
      go_ret
      exact ⟨by rw [HFin.out]; rfl, rfl⟩
set_option maxHeartbeats 1600000 in
set_option maxRecDepth 1000000 in
theorem sum_zero (a : Option Addr) (cap : Nat) (w : World) : Calls Try.prog 25 #[.slice a 0 cap] w fun e w' => e = .returned (.int .i64 0) ∧ w = w' := by
  go_enter Try.func25, Try.ntmps25
  go_wp2
  refine wp_loop_rounds 1 ?_
  rw [rounds_succ]
  go_wp2
  go_ret
  exact ⟨rfl, rfl⟩
theorem sum_any (a : Option Addr) (cap : Nat) (d : Array Int) (w : World) (h8 : d.size ≤ 8) (hf : Fine d) (h : SliceOf w a d) :
    Calls Try.prog 25 #[.slice a d.size cap] w fun e w' => e = .returned (.int .i64 (((nats d).sum : Nat) : Int)) ∧ w = w' := by
  rcases h with h | ⟨b, off, rfl, _, hr⟩
  · have e : nats d = [] := List.eq_nil_of_length_eq_zero (by rw [nats_length]; exact h)
    rw [e, h]
    exact sum_zero a cap w
  · exact sum25 b off cap d w h8 hf hr
/-! ### the document's Right -/
def RightRes (d : Array Int) (w : World) (e : Ending) (w' : World) : Prop := ∃ r : Bool, e = .returned (.bool r) ∧ w = w' ∧ (r = true ↔ Right d)
set_option maxHeartbeats 1600000 in
set_option maxRecDepth 1000000 in
theorem right10 (b off cap : Nat) (d : Array Int) (w : World) (hs : d.size ≤ 20) (hr : Reads w b off d) :
    Calls Try.prog 10 #[.slice (some ⟨b, off, none⟩) d.size cap] w (RightRes d w) := by
  have HR := Lib.hid hr
  clear hr
  go_enter Try.func10, Try.ntmps10
  go_wp2_with fail
  go_loop [7] (fun s => ∃ k : Nat, k ≤ d.size ∧ s = .int .i64 k ∧ Hid (∀ j, j < k → ¬ Odd d[j]!)) (fun s => d.size - (intOf s).toNat)
  case atStart => exact ⟨0, Nat.zero_le _, rfl, Lib.hid (fun j hj => by omega)⟩
  case round =>
    obtain ⟨k, hk, rfl, hall⟩ := hrel
    by_cases hlt : k < d.size
    · have ck := HR.out k hlt
      have h1 : (k : Int) < (d.size : Int) := by omega
      have h0 : (0 : Int) ≤ (k : Int) := by omega
      obtain ⟨x, hx⟩ : ∃ x, d[k]! = x := ⟨_, rfl⟩
      rw [hx] at ck
      have HX := Lib.hid hx
      clear hx
      by_cases ho : x < 0
      · have hd : decide (x < 0) = true := by simpa using ho
        go_wp2
        go_ret
        exact ⟨false, rfl, rfl, by simp; exact fun hf => hf.2 k hlt (by rw [HX.out]; exact .inl (by omega))⟩
      · have hd : decide (x < 0) = false := by simpa using ho
        by_cases ho2 : 64 < x
        · go_wp2
          go_ret
          exact ⟨false, rfl, rfl, by simp; exact fun hf => hf.2 k hlt (by rw [HX.out]; exact .inr (by omega))⟩
        · go_wp2
          go_round
          case rel =>
            refine ⟨k + 1, by omega, by go_num, Lib.hid (fun j hj => ?_)⟩
            rcases Nat.lt_or_ge j k with h | h
            · exact hall.out j h
            · obtain rfl : j = k := by omega
              rw [HX.out]; unfold Odd; omega
          case measure => simp [intOf]; omega
    · obtain rfl : k = d.size := by omega
      go_wp2
      go_ret
      refine ⟨_, rfl, rfl, ?_⟩
      simp
      exact ⟨fun h => ⟨by omega, hall.out⟩, fun h => by have := h.1; omega⟩
set_option maxHeartbeats 1600000 in
set_option maxRecDepth 1000000 in
theorem right_zero (a : Option Addr) (cap : Nat) (w : World) : Calls Try.prog 10 #[.slice a 0 cap] w fun e w' => e = .returned (.bool true) ∧ w = w' := by
  go_enter Try.func10, Try.ntmps10
  go_wp2
  refine wp_loop_rounds 1 ?_
  rw [rounds_succ]
  go_wp2
  go_ret
  exact ⟨rfl, rfl⟩
theorem right_any (a : Option Addr) (cap : Nat) (d : Array Int) (w : World) (hs : d.size ≤ 20) (h : SliceOf w a d) : Calls Try.prog 10 #[.slice a d.size cap] w (RightRes d w) := by
  rcases h with h | ⟨b, off, rfl, _, hr⟩
  · rw [h]
    refine (right_zero a cap w).mono ?_
    rintro e w' ⟨rfl, rfl⟩
    exact ⟨true, rfl, rfl, by simp; exact ⟨by omega, fun j hj => by omega⟩⟩
  · exact right10 b off cap d w hs hr
end Go.Proofs.Ytiapphhldedckaa.Ex
