/- The document's Fits. -/
import Derived.Test.YtkbbpjknakajeaaFits
namespace Go.Proofs.Ytkbbpjknakajeaa.Li
open Go.RowKit Go.Shelf Go.Sort
theorem below_drewN {B : Nat} {w w' : World} (h : Below B w w') (n : Nat) : Below B w (w'.drewN n) := ⟨h.os, h.tape, h.output, h.size, h.block⟩
def FitsR (l : Array QOp) (d : Array Int) (m : Nat) : Prop := ∀ i, i < m → ∀ j, j < i → ¬ (at_ l d i).to < (at_ l d j).fr

set_option maxHeartbeats 1600000 in
set_option maxRecDepth 1000000 in
theorem fitsR_no (al ad : Option Addr) (n cl m cap : Nat) (_hn : n ≤ 1000) (_hm : m ≤ 1000) (w : World) (c36 : Calls Try.prog 36 #[.int .i64 n, .slice ad m cap] w (Says False w)) :
    Calls Try.prog 14 #[.slice al n cl, .slice ad m cap] w (Says False w) := by
  go_enter Try.func14, Try.ntmps14
  go_wp2_with (go_at_call 36; refine c36.mono ?_; clear c36; rintro e w' ⟨r, rfl, hrQ, hB⟩; have HB := Lib.hid hB; (obtain rfl : r = false := by cases r; rfl; exact (hrQ.1 rfl).elim); clear hB hrQ)
  go_ret
  exact ⟨false, rfl, by simp, HB.out⟩
set_option maxHeartbeats 1600000 in
set_option maxRecDepth 1000000 in
theorem fitsR_nil (al ad : Option Addr) (n cl cap : Nat) (_hn : n ≤ 1000) (w : World) (c36 : Calls Try.prog 36 #[.int .i64 n, .slice ad 0 cap] w (Says True w)) :
    Calls Try.prog 14 #[.slice al n cl, .slice ad 0 cap] w (Says True w) := by
  go_enter Try.func14, Try.ntmps14
  go_wp2_with (go_at_call 36; refine c36.mono ?_; clear c36; rintro e w' ⟨r, rfl, hrQ, hB⟩; have HB := Lib.hid hB; (obtain rfl := hrQ.2 trivial); clear hB hrQ)
  refine wp_loop_rounds 1 ?_
  rw [rounds_succ]
  go_wp2
  go_ret
  exact ⟨true, rfl, by simp, HB.out⟩

set_option maxHeartbeats 3200000 in
set_option maxRecDepth 1000000 in
theorem fitsR_some (bl ol cl b off cap : Nat) (l : Array QOp) (d : Array Int) (hs : d.size ≤ 1000) (hsc : d.size ≤ cap) (_hn : l.size ≤ 1000) (w : World) (hb : b < w.heap.size) (hbl : bl < w.heap.size)
    (hq : ReadsQ w bl ol l) (hr : Reads w b off d) {Q : Prop} (hin : Q → Within l.size d)
    (c36 : Calls Try.prog 36 #[.int .i64 l.size, .slice (some ⟨b, off, none⟩) d.size cap] w (Says Q w)) :
    Calls Try.prog 14 #[.slice (some ⟨bl, ol, none⟩) l.size cl, .slice (some ⟨b, off, none⟩) d.size cap] w (Says (Q ∧ FitsR l d d.size) w) := by
  have HR := Lib.hid hr
  have HQ := Lib.hid hq
  have HIQ := Lib.hid hin
  clear hr hq hin
  go_enter Try.func14, Try.ntmps14
  go_wp2_with (go_at_call 36; refine c36.mono ?_; clear c36; rintro e w' ⟨r, rfl, hrQ, hB⟩; have HB := Lib.hid hB; have HRQ := Lib.hid hrQ; clear hB hrQ; cases r)
  · go_ret
    exact ⟨false, rfl, ⟨fun h => absurd h (by decide), fun h => absurd (HRQ.out.2 h.1) (by decide)⟩, HB.out⟩
  · have hQ := Lib.hid (show Q by have := HRQ.out; simpa using this)
    have HI := Lib.hid (HIQ.out hQ.out)
    clear HRQ HIQ
    have HR2 := Lib.hid (HR.out.below hb HB.out)
    have HQ2 := Lib.hid (HQ.out.below hbl HB.out)
    clear HR HQ
    go_loopw [16] (fun t wr => ∃ k q : Nat, k ≤ d.size ∧ t = .int .i64 k ∧ wr = w'.drewN q ∧ Hid (FitsR l d k)) (fun t _ => d.size - (intOf t).toNat)
    case atStart => exact ⟨0, 0, Nat.zero_le _, rfl, rfl, Lib.hid (fun j hj => by omega)⟩
    case round =>
      obtain ⟨k, q, hk, rfl, rfl, hall⟩ := hrel
      by_cases hlt : k < d.size
      · have ck := HR2.out k hlt
        have h1 : (k : Int) < (d.size : Int) := by omega
        have h2 : (0 : Int) ≤ (k : Int) := by omega
        have h3 : k ≤ cap := by omega
        obtain ⟨hx0, hx1⟩ := HI.out k hlt
        obtain ⟨m, hm⟩ : ∃ m : Nat, d[k]! = (m : Int) := ⟨(d[k]!).toNat, by omega⟩
        rw [hm] at ck hx0 hx1
        have hml : m < l.size := by omega
        have hat : at_ l d k = l[m]! := by rw [at_, hm]; rfl
        obtain ⟨_, _, _, ct⟩ := HQ2.out m hml
        obtain ⟨t, ht⟩ : ∃ t, l[m]!.to = t := ⟨_, rfl⟩
        rw [ht] at ct
        have HX := Lib.hid (And.intro hat ht)
        clear hat ht hm
        go_wp2_with fail
        go_loopw [25] (fun s wr => ∃ j p : Nat, j ≤ k ∧ s = .int .i64 j ∧ wr = w'.drewN p ∧ Hid (∀ i, i < j → ¬ (at_ l d k).to < (at_ l d i).fr)) (fun s _ => k - (intOf s).toNat)
        case atStart => exact ⟨0, q, Nat.zero_le _, rfl, rfl, Lib.hid (fun j hj => by omega)⟩
        case round =>
          obtain ⟨j, p, hj, rfl, rfl, hin⟩ := hrel
          by_cases hlj : j < k
          · have cj := HR2.out j (by omega)
            have g1 : (j : Int) < (k : Int) := by omega
            have g2 : (0 : Int) ≤ (j : Int) := by omega
            obtain ⟨hy0, hy1⟩ := HI.out j (by omega)
            obtain ⟨i, hi⟩ : ∃ i : Nat, d[j]! = (i : Int) := ⟨(d[j]!).toNat, by omega⟩
            rw [hi] at cj hy0 hy1
            have hil : i < l.size := by omega
            have hat2 : at_ l d j = l[i]! := by rw [at_, hi]; rfl
            obtain ⟨_, _, cf, _⟩ := HQ2.out i hil
            obtain ⟨f, hf⟩ : ∃ f, l[i]!.fr = f := ⟨_, rfl⟩
            rw [hf] at cf
            have HY := Lib.hid (And.intro hat2 hf)
            clear hat2 hf hi
            by_cases hb : t < f
            · go_wp2_with fail
              go_quiet (fail)
              go_wp2
              go_ret
              refine ⟨false, rfl, ⟨fun h => absurd h (by decide), fun h => ?_⟩, below_drewN (below_drewN HB.out _) _⟩
              have := h.2 k hlt j hlj
              rw [HX.out.1, HX.out.2, HY.out.1, HY.out.2] at this
              exact absurd hb this
            · have hd : decide (t < f) = false := by simpa using hb
              go_wp2_with fail
              go_quiet (fail)
              go_wp2
              go_roundw
              case rel =>
                refine ⟨j + 1, p + nq, by omega, by go_num, rfl, Lib.hid (fun i' hi' => ?_)⟩
                rcases Nat.lt_or_ge i' j with h | h
                · have := hin.out i' h; omega
                · obtain rfl : i' = j := by omega
                  rw [HX.out.1, HX.out.2, HY.out.1, HY.out.2]; omega
              case measure => simp [intOf]; omega
          · obtain rfl : j = k := by omega
            go_wp2
            go_roundw
            case rel =>
              refine ⟨j + 1, p, by omega, by go_num, rfl, Lib.hid (fun i' hi' => ?_)⟩
              rcases Nat.lt_or_ge i' j with h | h
              · exact hall.out i' h
              · obtain rfl : i' = j := by omega
                exact hin.out
            case measure => simp [intOf]; omega
      · obtain rfl : k = d.size := by omega
        go_wp2
        go_ret
        exact ⟨true, rfl, ⟨fun _ => ⟨hQ.out, hall.out⟩, fun _ => rfl⟩, below_drewN HB.out _⟩

end Go.Proofs.Ytkbbpjknakajeaa.Li
