/- GaugeMany answers true, for every number. -/
import Derived.Test.YtkbbpjknakajeaaGSet
namespace Go.Proofs.Ytkbbpjknakajeaa
open Go Go.AE Go.RowKit
theorem SG_ok (w : World) : SOK EG Try.prog w SG := defS_ok (mkEnvL_ok _) mixedG 1000 40 isSlow (noSums_ok _ _ _) 1
/-- values that stand, as a memory says -/
def StG (w1 : World) (m : Mem) (l l' : List Value) (w : World) : Prop := ∃ σ, MR EG w1 σ m w ∧ VRL σ l l'
theorem StG.below {w1 w : World} {m : Mem} {l l' : List Value} (h : StG w1 m l l' w) : RowKit.Below w1.heap.size w1 w := let ⟨_, h1, _⟩ := h; h1.below
theorem StG.alloc {w1 w : World} {m : Mem} {l l' : List Value} (h : StG w1 m l l' w) (ob : Obj) : StG w1 m l l' (w.alloc ob) := by
  obtain ⟨σ, hM, hp⟩ := h
  refine ⟨σ, ⟨hM.below.alloc hM.below.size ob, fun i o hi hl => ?_, hM.inj, hM.fresh⟩, hp⟩
  obtain ⟨x, ob', h1, h2, h3, h4⟩ := hM.obj i o hi hl
  exact ⟨x, ob', h1, h2, (Below.heap_alloc w ob x.b (Array.getElem?_eq_some_iff.1 h3).1).trans h3, h4⟩
theorem StG.nil2 {w1 w : World} {m : Mem} {r p q : Value} {l l' : List Value} (h : StG w1 m (r :: .pointer none :: l) (p :: q :: l') w) : q = .pointer none := let ⟨_, _, h2⟩ := h; h2.tail.head.simple_inv rfl
theorem StG.first {w1 w : World} {m : Mem} {r p : Value} {l l' : List Value} (h : StG w1 m (r :: l) (p :: l') w) : StG w1 m [r] [p] w := let ⟨σ, h1, h2⟩ := h; ⟨σ, h1, .cons h2.head (VRL.nil _)⟩
theorem callG {f : FuncId} {args : List Value} {m m' : Mem} {v : Value} (h : clG f args m = [(v, m')]) {w1 w : World} {l l' : List Value} {args' : Array Value} (hst : StG w1 m l l' w) (hargs : ∀ σ, VRL σ l l' → VRL σ args args'.toList) :
    Calls Try.prog f args' w fun e w' => ∃ v', e = .returned v' ∧ ∃ σ', MR EG w1 σ' m' w' ∧ VRL σ' l l' ∧ VR σ' v v' := by
  obtain ⟨σ, hM, hl⟩ := hst
  have h' : evCall EG SG 1000 40 (.fn f) args m = [(v, m')] := by rw [← evCallF_eq]; exact h
  have hne : evCall EG SG 1000 40 (.fn f) args m ≠ [] := by rw [h']; simp
  refine ((evCall_ok (w0 := w1) (mkEnvL_ok _) mixedG (SG_ok w1) 1000 40).fn f args m hne σ w args' (hargs σ hl) hM).mono ?_
  rintro e w' ⟨r, hr, σ', v', rfl, hf, hv, hm⟩
  have hr : r ∈ evCall EG SG 1000 40 (.fn f) args m := hr
  rw [h'] at hr
  obtain rfl := List.mem_singleton.1 hr
  exact ⟨v', rfl, σ', hm, hl.mono hf.ext, hv⟩
theorem twoOf_inv {l : List (Value × Mem)} {v : Value} {e : Int} {m : Mem} (h : twoOf l = some (v, e, m)) : l = [(.tuple #[v, .int .i64 e], m)] := by
  unfold twoOf at h
  split at h
  · rename_i vs m'
    split at h
    · rename_i v' e' hvs
      cases h
      obtain ⟨l⟩ := vs
      simp only at hvs
      rw [hvs]
    · cases h
  · cases h
theorem intR_inv {l : List (Value × Mem)} {n : Int} {m : Mem} (h : intR l = some (n, m)) : l = [(.int .i64 n, m)] := by
  unfold intR at h
  split at h
  · cases h; rfl
  · cases h
theorem ptrOf_inv {l : List (Value × Mem)} {v : Value} {m : Mem} (h : ptrOf l = some (v, m)) : l = [(v, m)] := by
  unfold ptrOf at h
  split at h
  · cases h; rfl
  · cases h
theorem begin_c (w1 : World) : Calls Try.prog 17 #[] w1 fun e w' => ∃ p, e = .returned p ∧ StG w1 m0G [rG] [p] w' := by
  obtain ⟨r, hr⟩ := Option.isSome_iff_exists.1 startedG
  have h1 : rG = r.1 := by unfold rG; rw [hr]
  have h2 : m0G = r.2 := by unfold m0G; rw [hr]
  have h := ptrOf_inv (v := r.1) (m := r.2) hr
  refine (callG h (l := []) (l' := []) (args' := #[]) ⟨fun _ => none, MR.start _ w1, VRL.nil _⟩ (fun _ h => h)).mono ?_
  rintro e w' ⟨v', rfl, σ', hM, _, hv⟩
  exact ⟨v', rfl, σ', by rw [h2]; exact hM, .cons (by rw [h1]; exact hv) (VRL.nil _)⟩
theorem cnt_c {i : Nat} {m m' : Mem} {v : Value} {e : Int} (h : cntF i m = some (v, e, m')) {w1 w : World} {p : Value} {l l' : List Value} (hst : StG w1 m (rG :: l) (p :: l') w) :
    Calls Try.prog 18 #[p, .string (nameOf i)] w fun x w' => ∃ q, x = .returned (.tuple #[q, .int .i64 e]) ∧ StG w1 m' (rG :: v :: l) (p :: q :: l') w' := by
  refine (callG (twoOf_inv h) hst (args' := #[p, .string (nameOf i)]) (fun σ hl => .cons hl.head (.cons (.refl rfl) (VRL.nil _)))).mono ?_
  rintro x w' ⟨v', rfl, σ', hM, hl, hv⟩
  obtain ⟨⟨vs⟩, rfl, hvs⟩ := hv.tuple_inv
  match vs, hvs with
  | [], hvs => exact absurd hvs.1 (by simp)
  | [_], hvs => exact absurd hvs.1 (by simp)
  | _ :: _ :: _ :: _, hvs => exact absurd hvs.1 (by simp)
  | [q, n], hvs =>
    obtain rfl := (hvs.tail.head).simple_inv rfl
    exact ⟨q, rfl, σ', hM, .cons hl.head (.cons hvs.head hl.tail)⟩
theorem add_c {i : Nat} {m m' : Mem} {v v2 r : Value} {n : Int} (h : addF v i m = some (n, m')) {w1 w : World} {p q q2 : Value} (hst : StG w1 m [r, v2, v] [p, q2, q] w) :
    Calls Try.prog 19 #[q, .int .i64 i] w fun x w' => x = .returned (.int .i64 n) ∧ StG w1 m' [r, v2, v] [p, q2, q] w' := by
  refine (callG (intR_inv h) hst (args' := #[q, .int .i64 i]) (fun σ hl => .cons hl.tail.tail.head (.cons (.refl rfl) (VRL.nil _)))).mono ?_
  rintro x w' ⟨v', rfl, σ', hM, hl, hv⟩
  obtain rfl := hv.simple_inv rfl
  exact ⟨rfl, σ', hM, hl⟩
theorem val_c {m m' : Mem} {v v2 r : Value} {n : Int} (h : valF v2 m = some (n, m')) {w1 w : World} {p q q2 : Value} (hst : StG w1 m [r, v2, v] [p, q2, q] w) :
    Calls Try.prog 20 #[q2] w fun x w' => x = .returned (.int .i64 n) ∧ StG w1 m' [r] [p] w' := by
  refine (callG (intR_inv h) hst (args' := #[q2]) (fun σ hl => .cons hl.tail.head (VRL.nil _))).mono ?_
  rintro x w' ⟨v', rfl, σ', hM, hl, hv⟩
  obtain rfl := hv.simple_inv rfl
  exact ⟨rfl, σ', hM, .cons hl.head (VRL.nil _)⟩
theorem bnd_inv {α β : Type} {x : Option α} {f : α → Option β} {b : β} (h : bnd x f = some b) : ∃ a, x = some a ∧ f a = some b := by
  cases x with
  | none => cases h
  | some a => exact ⟨a, rfl, h⟩
theorem cond_inv {α : Type} {b : Bool} {x : Option α} {y : α} (h : cond b x none = some y) : b = true ∧ x = some y := by
  cases b with
  | false => cases h
  | true => exact ⟨rfl, h⟩
theorem round_at (k : Nat) (hk : k < 80) : ∃ v e m1 v2 e2 m2, cntF k (gseq k) = some (v, e, m1) ∧ cntF k m1 = some (v2, e2, m2) ∧
    ((k < 64 ∧ e = 0 ∧ e2 = 0 ∧ ∃ m3, addF v k m2 = some ((k : Int), m3) ∧ valF v2 m3 = some ((k : Int), gseq (k + 1))) ∨ (64 ≤ k ∧ e = 12 ∧ e2 = 12 ∧ v = .pointer none ∧ m2 = gseq (k + 1))) := by
  have h := allG_spec roundsG k hk
  obtain ⟨r, hr⟩ := Option.isSome_iff_exists.1 h
  have hn : gseq (k + 1) = r := by
    show nextG k (gseq k) = r
    unfold nextG
    rw [hr]
  unfold roundG at hr
  obtain ⟨a, ha, hr⟩ := bnd_inv hr
  obtain ⟨b, hb, hr⟩ := bnd_inv hr
  refine ⟨a.1, a.2.1, a.2.2, b.1, b.2.1, b.2.2, ha, hb, ?_⟩
  by_cases h64 : k < 64
  · have : Nat.blt k 64 = true := Nat.ble_eq_true_of_le h64
    rw [this] at hr
    obtain ⟨h1, hr⟩ := cond_inv (by simpa only [cond_true] using hr)
    obtain ⟨x, hx, hr⟩ := bnd_inv hr
    obtain ⟨h2, hr⟩ := cond_inv hr
    obtain ⟨y, hy, hr⟩ := bnd_inv hr
    obtain ⟨h3, hr⟩ := cond_inv hr
    simp only [Bool.and_eq_true, beq_iff_eq] at h1 h2 h3
    refine .inl ⟨h64, h1.1, h1.2, x.2, ?_, ?_⟩
    · rw [hx, show x = (x.1, x.2) from rfl, h2]; rfl
    · rw [hy, show y = (y.1, y.2) from rfl, h3, hn, Option.some.inj hr]; rfl
  · have : Nat.blt k 64 = false := by
      cases hc : Nat.blt k 64 with
      | false => rfl
      | true => exact absurd (Nat.le_of_ble_eq_true hc) h64
    rw [this] at hr
    obtain ⟨h1, hr⟩ := cond_inv (by simpa only [cond_false] using hr)
    simp only [Bool.and_eq_true, beq_iff_eq] at h1
    split at hr
    · rename_i hv
      exact .inr ⟨by omega, h1.1, h1.2, hv, by rw [hn]; exact Option.some.inj hr⟩
    · cases hr
theorem all_c {w1 w : World} {N : Nat} (hN : N < 80) {p : Value} (hst : StG w1 (gseq N) [rG] [p] w) :
    Calls Try.prog 21 #[p] w fun x w' => (∃ a cap, x = .returned (.slice a (min N 64) cap)) ∧ RowKit.Below w.heap.size w w' := by
  obtain ⟨σ, hM, hl⟩ := hst
  have h := allG_spec setsG N hN
  have hmin : cond (Nat.blt N 64) N 64 = min N 64 := by
    by_cases h64 : N < 64
    · have : Nat.blt N 64 = true := Nat.ble_eq_true_of_le h64
      rw [this, cond_true]; omega
    · have : Nat.blt N 64 = false := by
        cases hc : Nat.blt N 64 with
        | false => rfl
        | true => exact absurd (Nat.le_of_ble_eq_true hc) h64
      rw [this, cond_false]; omega
  simp only [hmin] at h
  obtain ⟨sb, so, mb, es, clock, rfl, h1, h2, h3, h4, h5, h6⟩ := set_at hM hl.head h
  rw [← h3]
  exact all_any sb so mb es clock w h1 h2 h4 h5 h6 (by omega)
set_option maxRecDepth 1000000 in
set_option maxHeartbeats 6400000 in
theorem many_law (n : Nat) (hn : n < 256) (w : World) : Calls Try.prog 5 #[.int .u8 n] w fun e w' => e = .returned (.bool true) ∧ RowKit.Below w.heap.size w w' := by
  obtain ⟨N, hN⟩ : ∃ N, n % 80 = N := ⟨_, rfl⟩
  have hN80 : N < 80 := by omega
  have r1 : (n : Int).tmod 80 = (N : Int) := by rw [Int.tmod_eq_emod_of_nonneg (by omega)]; omega
  clear hN
  go_enter Try.func5, Try.ntmps5
  go_wp2_with (first
    | (go_at_call 16; refine (gauge_fixed _).mono ?_; rintro e w1 ⟨rfl, hB1⟩; have HB1 := Lib.hid hB1; clear hB1)
    | (go_at_call 17; refine (begin_c _).mono ?_; rintro e w2 ⟨p, rfl, hst⟩; have HS := Lib.hid hst; clear hst))
  go_loopw [16] (fun v wr => ∃ k : Nat, k ≤ N ∧ v = .int .i64 k ∧ Hid (StG w1 (gseq k) [rG] [p] wr)) (fun v _ => N - (intOf v).toNat)
  case atStart => exact ⟨0, Nat.zero_le _, rfl, HS⟩
  case round =>
    obtain ⟨k, hk, rfl, hst⟩ := hrel
    by_cases hlt : k < N
    · have h1 : (k : Int) < (N : Int) := by omega
      have hcv := conv3 wr 99 (97 + (k : Int) / 10) (48 + (k : Int) % 10)
      have hnm : (⟨#[UInt8.ofNat (99 : Int).toNat, UInt8.ofNat (97 + (k : Int) / 10).toNat, UInt8.ofNat (48 + (k : Int) % 10).toNat]⟩ : ByteArray) = nameOf k := by
        rw [show (97 + (k : Int) / 10).toNat = 97 + k / 10 by omega, show (48 + (k : Int) % 10).toNat = 48 + k % 10 by omega]
        rfl
      rw [hnm] at hcv
      clear hnm
      obtain ⟨v, e, m1, v2, e2, m2, g1, g2, g3⟩ := round_at k (by omega)
      have hst0 : StG w1 (gseq k) [rG] [p] (wr.alloc (.cells #[.int .u8 99, .int .u8 (97 + (k : Int) / 10), .int .u8 (48 + (k : Int) % 10)] 5)) := hst.out.alloc _
      have c1 := cnt_c g1 hst0
      have HG2 := Lib.hid g2
      clear g1 g2 hst0
      rcases g3 with ⟨h64, rfl, rfl, m3, g4, g5⟩ | ⟨h64, rfl, rfl, rfl, rfl⟩
      · have h64' : ¬ (k : Int) ≥ 64 := by omega
        have HG4 := Lib.hid (And.intro g4 g5)
        clear g4 g5
        go_wp2_with (first
          | (go_at_call 18; refine c1.mono ?_; clear c1; rintro e w3 ⟨q1, rfl, hst1⟩; have c2 := cnt_c HG2.out hst1; clear hst1)
          | (go_at_call 18; refine c2.mono ?_; clear c2; rintro e w4 ⟨q2, rfl, hst2⟩; have c3 := add_c HG4.out.1 hst2; clear hst2)
          | (go_at_call 19; refine c3.mono ?_; clear c3; rintro e w5 ⟨rfl, hst3⟩; have c4 := val_c HG4.out.2 hst3; clear hst3)
          | (go_at_call 20; refine c4.mono ?_; clear c4; rintro e w6 ⟨rfl, hst4⟩; have HS4 := Lib.hid hst4; clear hst4))
        go_roundw
        case rel => exact ⟨k + 1, by omega, by go_num, HS4⟩
        case measure => simp [intOf]; omega
      · have h64' : (k : Int) ≥ 64 := by omega
        go_wp2_with (first
          | (go_at_call 18; refine c1.mono ?_; clear c1; rintro e w3 ⟨q1, rfl, hst1⟩; obtain rfl := hst1.nil2; have c2 := cnt_c HG2.out hst1; clear hst1)
          | (go_at_call 18; refine c2.mono ?_; clear c2; rintro e w4 ⟨q2, rfl, hst2⟩; have HS4 := Lib.hid hst2.first; clear hst2))
        go_roundw
        case rel => exact ⟨k + 1, by omega, by go_num, HS4⟩
        case measure => simp [intOf]; omega
    · obtain rfl : k = N := by omega
      have c21 := all_c hN80 hst.out
      have hsz := hst.out.below
      by_cases h64 : (64 : Int) < (k : Int)
      · have hm : min k 64 = 64 := by omega
        rw [hm] at c21
        go_wp2_with (go_at_call 21; refine c21.mono ?_; clear c21; rintro e w3 ⟨⟨a, cap, rfl⟩, hB⟩; have HB := Lib.hid hB; clear hB)
        go_ret
        exact ⟨by simp; omega, HB1.out.trans ((hsz.mono HB1.out.size).trans (HB.out.mono (Nat.le_trans HB1.out.size hsz.size)))⟩
      · have hm : min k 64 = k := by omega
        rw [hm] at c21
        go_wp2_with (go_at_call 21; refine c21.mono ?_; clear c21; rintro e w3 ⟨⟨a, cap, rfl⟩, hB⟩; have HB := Lib.hid hB; clear hB)
        go_ret
        exact ⟨by simp; omega, HB1.out.trans ((hsz.mono HB1.out.size).trans (HB.out.mono (Nat.le_trans HB1.out.size hsz.size)))⟩
end Go.Proofs.Ytkbbpjknakajeaa
