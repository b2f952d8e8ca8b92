/- The program's Next: what it answers. -/
import Derived.Test.YtiapphhldedckaaNextPlain2
import Derived.Test.YtiapphhldedckaaShelf
import Derived.Sort.WalkB12
import Derived.Sort.OwnSortedInts
import Derived.Deep.QuietTactic
import Derived.BigQuiet
import Derived.BigRegion
import Derived.WalkSpells
import Derived.Outline
import Derived.Lib.Hide
namespace Go.Proofs.Ytiapphhldedckaa.Nx
open Go.RowKit Go.Sort
/-- a row of integers, read -/
def Reads (w : World) (b off : Nat) (d : Array Int) : Prop := ∀ j, j < d.size → w.cell? ⟨b, off + j, none⟩ = some (.int .i64 d[j]!)
theorem Reads.drewN {w : World} {b off : Nat} {d : Array Int} (h : Reads w b off d) (n : Nat) : Reads (w.drewN n) b off d := h
theorem own_some {w : World} {base : Nat} {e : TypeId} {size n : Nat} {v : Value} {xs : List Value} (h : w.ownsRow base e size v n xs) (hn : 0 < n) : ∃ g cap, v = .slice (some ⟨g, 0, none⟩) n cap ∧ n ≤ cap ∧ base ≤ g ∧ g < w.heap.size := by
  rcases h.2 with ⟨_, h1⟩ | ⟨g, cap, cur, h1, hb, hg, hc, _⟩
  · omega
  · exact ⟨g, cap, h1, hc, hb, (Array.getElem?_eq_some_iff.1 hg).1⟩
theorem own_holds {w : World} {base : Nat} {e : TypeId} {g cap : Nat} {zs : List Int} (h : w.ownsRow base e 1 (.slice (some ⟨g, 0, none⟩) zs.length cap) zs.length (zs.map (Value.int .i64))) : Holds encI w g 0 zs.toArray := by
  rcases h.2 with ⟨h1, _⟩ | ⟨g', cap', cur, h1, _, hg, hn, hm, hs, ht⟩
  · cases h1
  · cases h1
    exact holds_of_blockI hg (by simpa using ht)
theorem list_read {w : World} {b off : Nat} {d : Array Int} (h : Reads w b off d) : ∀ j, j < d.toList.length → w.cell? ⟨b, off + j, none⟩ = some (.int .i64 (d.toList.getD j 0)) := by
  intro j hj
  have hj' : j < d.size := by simpa using hj
  rw [h j hj', getElem!_pos d j hj']
  simp [List.getD, hj']
theorem below_putRow {B : Nat} {w w' : World} (h : Below B w w') {g : Nat} (hg : B ≤ g) (off n : Nat) (d : Array Int) : Below B w (putRow encI (Sort.ahead w' n) g off d) := by
  refine ⟨h.os, h.tape, h.output, ?_, fun k hk => ?_⟩
  · rw [size_putRow]; exact h.size
  · rw [show (putRow encI (Sort.ahead w' n) g off d).heap[k]? = w'.heap[k]? from ?_]
    · exact h.block k hk
    · simp [putRow, mapBlock, Array.getElem?_modify, show g ≠ k from by omega]
theorem rev_tail (g o n cap : Nat) (t : Array Int) (w : World) (hn : t.size = n) (hs : n ≤ 60) (hH : Holds encI w g o t) :
    Calls Try.prog 26 #[.slice (some ⟨g, o, none⟩) n cap] w fun e w' => e = .returned (.tuple #[]) ∧ ∃ q, w' = putRow encI (Sort.ahead w q) g o t.reverse := by
  subst hn
  exact Try.slices_Reverse_int_arr g o cap t w hH (by omega)
theorem holds_extract {w : World} {g : Nat} {d : Array Int} (a : Nat) (h : Holds encI w g 0 d) : Holds encI w g a (d.extract a d.size) := by
  intro j hj
  simp only [Array.size_extract] at hj
  have := h (a + j) (by omega)
  rw [Nat.zero_add] at this
  rw [getElem!_pos _ j (by simp; omega)]
  rw [getElem!_pos d (a + j) (by omega)] at this
  simpa using this
theorem holds_turned {w : World} {g i q : Nat} {d : Array Int} (hi : i < d.size) (h : Holds encI w g 0 d) : Holds encI (putRow encI (Sort.ahead w q) g (i + 1) (d.extract (i + 1) d.size).reverse) g 0 (turned d i) := by
  intro j hj
  rw [size_turned d i hi] at hj
  rw [Nat.zero_add]
  refine ⟨?_, by rw [frozen?_putRow]; exact by have := (h j hj).2; rwa [Nat.zero_add] at this⟩
  rcases Nat.lt_or_ge i j with h1 | h1
  · have := cell?_putRow encI (Sort.ahead w q) g (i + 1) (d.extract (i + 1) d.size) (d.extract (i + 1) d.size).reverse (holds_ahead _ _ _ _ _ _ (holds_extract (i + 1) h)) (by simp) (j - (i + 1)) (by simp; omega)
    rw [show i + 1 + (j - (i + 1)) = j from by omega] at this
    rw [this, turned_high d i j hi h1 hj, getElem!_pos d _ (by omega), getElem!_pos _ _ (by simp; omega)]
    simp only [Array.getElem_reverse, Array.getElem_extract, Array.size_extract]
    congr 3
    omega
  · rw [cell?_putRow_other _ _ _ _ _ _ (.inr (.inl (by simp; omega))), turned_low d i j hi h1]
    have := (h j hj).1
    rwa [Nat.zero_add] at this
theorem swap_world0 {w : World} {n g i j : Nat} {d : Array Int} (hH : Holds encI w g 0 d) (hi : i < d.size) (hj : j < d.size) {x y : Int} (hx : d[j]! = x) (hy : d[i]! = y) :
    ((w.drewN n).setCell ⟨g, i, none⟩ (.int .i64 x)).setCell ⟨g, j, none⟩ (.int .i64 y) = putRow encI (Sort.ahead w n) g 0 (swp d i j) := by
  subst hx hy
  have h := putRow_swp encI (Sort.ahead w n) g 0 d i j hi hj
  rw [Nat.zero_add, Nat.zero_add, putRow_ahead, putRow_self encI w g 0 d hH] at h
  exact h
theorem below_drewN {B : Nat} {w w' : World} (h : Below B w w') (n : Nat) : Below B w (w'.drewN n) := ⟨h.os, h.tape, h.output, h.size, h.block⟩
theorem below_of_drewN {B n : Nat} {w w' : World} (h : Below B (w.drewN n) w') : Below B w w' := ⟨h.os, h.tape, h.output, h.size, h.block⟩
set_option maxHeartbeats 1600000 in
set_option maxRecDepth 1000000 in
theorem nextE_none (b off cap : Nat) (d : Array Int) (w : World) (h0 : 0 < d.size) (hs : d.size ≤ 60) (hf : Falls d 0) (hr : Reads w b off d) :
    Calls Try.prog 16 #[.slice (some ⟨b, off, none⟩) d.size cap] w fun e w' => e = .returned (.tuple #[.slice none 0 0, .bool false]) ∧ ∃ n, w' = w.drewN n := by
  go_enter Try.func16, Try.ntmps16
  go_wp2
  go_loopw [4] (fun s wr => ∃ (j q : Nat) (iz : Int), j + 1 ≤ d.size ∧ s = .int .i64 iz ∧ iz = (j : Int) - 1 ∧ wr = w.drewN q) (fun s _ => (intOf s + 1).toNat)
  case atStart => exact ⟨d.size - 1, 0, _, by omega, rfl, by omega, rfl⟩
  case round =>
    obtain ⟨j, q, iz, hj, rfl, hiz, rfl⟩ := hrel
    rcases Nat.eq_zero_or_pos j with rfl | hpos
    · have h1 : iz < 0 := by omega
      have hd : decide (0 ≤ iz) = false := by simpa using h1
      clear hiz hr hf
      go_wp2_with fail
      go_quiet (fail)
      go_wp2
      go_ret2
      exact ⟨rfl, _, rfl⟩
    · obtain ⟨i, rfl⟩ : ∃ i, j = i + 1 := ⟨j - 1, by omega⟩
      obtain rfl : iz = (i : Int) := by omega
      have h1 : (0 : Int) ≤ (i : Int) := by omega
      have hd : decide ((0 : Int) ≤ (i : Int)) = true := by simp
      have ci := hr i (by omega)
      have ci1 := hr (i + 1) (by omega)
      have hi2 : (i : Int) < (d.size : Int) := by omega
      have hi3 : (i : Int) + 1 < (d.size : Int) := by omega
      have hle : d[i + 1]! ≤ d[i]! := hf i (by omega) (by omega)
      generalize d[i + 1]! = y at *
      generalize d[i]! = x at *
      clear hr hf hiz
      go_wp2_with fail
      go_quiet (fail)
      go_wp2
      go_roundw
      case rel => exact ⟨i, q + nq, (i : Int) - 1, by omega, rfl, rfl, rfl⟩
      case measure => simp [intOf]
set_option maxHeartbeats 1600000 in
set_option maxRecDepth 1000000 in
theorem nextE_short (a : Option Addr) (cap : Nat) (w : World) :
    Calls Try.prog 16 #[.slice a 0 cap] w fun e w' => e = .returned (.tuple #[.slice none 0 0, .bool false]) ∧ ∃ n, w' = w.drewN n := by
  go_enter Try.func16, Try.ntmps16
  go_wp2
  refine wp_loop_rounds 1 ?_
  rw [rounds_succ]
  go_wp2_with fail
  go_quiet (fail)
  go_wp2
  go_ret2
  exact ⟨rfl, _, rfl⟩
def SomeNext (w : World) (d : Array Int) (i : Nat) (e : Ending) (w' : World) : Prop := ∃ g c r, e = .returned (.tuple #[.slice (some ⟨g, 0, none⟩) d.size c, .bool true]) ∧ NextAt d r i ∧ Holds encI w' g 0 r ∧ w.heap.size ≤ g ∧ g < w'.heap.size ∧ Below w.heap.size w w'
set_option maxHeartbeats 1600000 in
set_option maxRecDepth 1000000 in
theorem nextE_some (b off cap : Nat) (d : Array Int) (w : World) (hs : d.size ≤ 60) (i0 : Nat) (hi0 : i0 + 1 < d.size) (hf : Falls d (i0 + 1)) (hup : d[i0]! < d[i0 + 1]!) (hb : b < w.heap.size) (hr : Reads w b off d) :
    Calls Try.prog 16 #[.slice (some ⟨b, off, none⟩) d.size cap] w (SomeNext w d i0) := by
  go_enter Try.func16, Try.ntmps16
  go_wp2
  go_loopw [4] (fun s wr => ∃ (j q : Nat) (iz : Int), j + 1 ≤ d.size ∧ i0 + 1 ≤ j ∧ s = .int .i64 iz ∧ iz = (j : Int) - 1 ∧ wr = w.drewN q) (fun s _ => (intOf s + 1).toNat)
  case atStart => exact ⟨d.size - 1, 0, _, by omega, by omega, rfl, by omega, rfl⟩
  case round =>
    obtain ⟨j, q, iz, hj, hji, rfl, hiz, rfl⟩ := hrel
    obtain ⟨i, rfl⟩ : ∃ i, j = i + 1 := ⟨j - 1, by omega⟩
    obtain rfl : iz = (i : Int) := by omega
    have h1 : (0 : Int) ≤ (i : Int) := by omega
    have hd : decide ((0 : Int) ≤ (i : Int)) = true := by simp
    have ci := hr i (by omega)
    have ci1 := hr (i + 1) (by omega)
    have hi2 : (i : Int) < (d.size : Int) := by omega
    have hi3 : (i : Int) + 1 < (d.size : Int) := by omega
    have HR := Lib.hid hr
    have HF := Lib.hid hf
    clear hr hf hiz
    rcases Nat.lt_or_ge i0 i with hlt | hge
    · have hle : d[i + 1]! ≤ d[i]! := HF.out i (by omega) (by omega)
      have HU := Lib.hid hup
      clear hup
      generalize d[i + 1]! = y at *
      generalize d[i]! = x at *
      go_wp2_with fail
      go_quiet (fail)
      go_wp2
      go_roundw
      case rel => exact ⟨i, q + nq, (i : Int) - 1, by omega, by omega, rfl, rfl, rfl⟩
      case measure => simp [intOf]
    · obtain rfl : i = i0 := by omega
      have hlt : ¬ d[i + 1]! ≤ d[i]! := by omega
      have HU := Lib.hid hup
      clear hup
      have ci' := ci
      have ci1' := ci1
      obtain ⟨x, hx⟩ : ∃ x, d[i]! = x := ⟨_, rfl⟩
      obtain ⟨y, hy⟩ : ∃ y, d[i + 1]! = y := ⟨_, rfl⟩
      rw [hx] at ci hlt
      rw [hy] at ci1 hlt
      have HX := Lib.hid hx
      have HY := Lib.hid hy
      clear hx hy ci' ci1'
      go_wp2_with fail
      go_quiet (fail)
      go_wp2_with fail
      have hzs : d.toList.length = d.size := by simp
      refine (Try.slices_Clone_int b off d.size cap d.toList (w.drewN (q + nq)) (by simp) (by omega) (list_read (HR.out.drewN _))).mono ?_
      rintro e w1 ⟨v, rfl, hown, _, hbel⟩
      obtain ⟨g, c, rfl, hc, hg1, hg2⟩ := own_some hown (by omega)
      have hH : Holds encI w1 g 0 d := by
        have := own_holds (g := g) (cap := c) (zs := d.toList) (w := w1) (by simpa [List.take_of_length_le] using hown)
        simpa using this
      have HB := Lib.hid (below_of_drewN hbel)
      have hg3 : w.heap.size ≤ g := hg1
      clear hown hbel hg1 hzs
      have HH := Lib.hid hH
      clear hH
      go_wp2_with fail
      go_loopw [6] (fun s wr => ∃ (k m : Nat), i < k ∧ k < d.size ∧ s = .int .i64 k ∧ wr = w1.drewN m ∧ Hid (∀ t, k < t → t < d.size → d[t]! ≤ d[i]!)) (fun s _ => (intOf s).toNat)
      case atStart => exact ⟨d.size - 1, 0, by omega, by omega, by go_num, rfl, Lib.hid (fun t h1 h2 => by omega)⟩
      case round =>
        obtain ⟨k, m, hk1, hk2, rfl, rfl, hall⟩ := hrel
        have hk3 : (0 : Int) ≤ (k : Int) := by omega
        have hk4 : (k : Int) < (d.size : Int) := by omega
        have ei : w1.cell? ⟨g, i, none⟩ = some (.int .i64 x) := by have := (HH.out i (by omega)).1; rw [Nat.zero_add, HX.out] at this; exact this
        obtain ⟨z, hz⟩ : ∃ z, d[k]! = z := ⟨_, rfl⟩
        have ek : w1.cell? ⟨g, k, none⟩ = some (.int .i64 z) := by have := (HH.out k hk2).1; rw [Nat.zero_add, hz] at this; exact this
        have HZ := Lib.hid hz
        clear hz
        by_cases hzx : z ≤ x
        · go_wp2_with fail
          go_quiet (fail)
          go_wp2
          have hki : k ≠ i + 1 := by
            rintro rfl
            have h1 := HU.out
            have h2 := HZ.out
            have h3 := HX.out
            omega
          go_roundw
          case rel =>
            refine ⟨k - 1, m + nq, by omega, by omega, by go_num, rfl, Lib.hid (fun t h1 h2 => ?_)⟩
            rcases Nat.lt_or_ge k t with h3 | h3
            · exact hall.out t h3 h2
            · obtain rfl : t = k := by omega
              rw [HZ.out, HX.out]; exact hzx
          case measure => simp [intOf]; omega
        · have fi : w1.frozen? ⟨g, i, none⟩ = false := by have := (HH.out i (by omega)).2; rw [Nat.zero_add] at this; exact this
          have fk : w1.frozen? ⟨g, k, none⟩ = false := by have := (HH.out k hk2).2; rw [Nat.zero_add] at this; exact this
          go_wp2_with fail
          go_quiet (fail)
          go_wp2_with fail
          have hki : i < k := hk1
          have hci : ¬ c = i + 1 := by omega
          have hcs : i + 1 ≤ c := by omega
          have his : i + 1 ≤ d.size := by omega
          go_region
          rw [swap_world0 HH.out (by omega) hk2 HZ.out HX.out]
          obtain ⟨W, hW⟩ : ∃ W, W = putRow encI (Sort.ahead w1 (m + nq + 1)) g 0 (swp d i k) := ⟨_, rfl⟩
          rw [← hW]
          have hWH : Holds encI W g 0 (swp d i k) := by rw [hW]; exact holds_putRow encI _ g 0 d _ (holds_ahead _ _ _ _ _ _ HH.out) (size_swp d i k)
          have hWB : Below w.heap.size w W := by rw [hW]; exact below_putRow HB.out hg3 _ _ _
          have hWs : g < W.heap.size := by rw [hW, size_putRow]; exact hg2
          have HW1 := Lib.hid hWH
          have HW2 := Lib.hid hWB
          have HW3 := Lib.hid hWs
          clear hW hWH hWB hWs ei ek fi fk
          go_wp2_with fail
          refine (rev_tail g (i + 1) (d.size - (i + 1)) (c - (i + 1)) ((swp d i k).extract (i + 1) (swp d i k).size) W (by simp [size_swp]) (by omega) (holds_extract (i + 1) HW1.out)).mono ?_
          rintro e w3 ⟨rfl, q3, hw3⟩
          have hn3 : NextAt d (turned (swp d i k) i) i := by
            have h1 := HU.out
            have h2 := HZ.out
            have h3 := HX.out
            exact next_turned hki hk2 HF.out h1 (by omega) hall.out
          have hH3 : Holds encI w3 g 0 (turned (swp d i k) i) := by rw [hw3]; exact holds_turned (by rw [size_swp]; omega) HW1.out
          have hB3 : Below w.heap.size w w3 := by rw [hw3]; exact below_putRow HW2.out hg3 _ _ _
          have hs3 : g < w3.heap.size := by rw [hw3, size_putRow]; exact HW3.out
          have F1 := Lib.hid hn3
          have F2 := Lib.hid hH3
          have F3 := Lib.hid hB3
          have F4 := Lib.hid hs3
          clear hw3 hn3 hH3 hB3 hs3
          go_wp2
          go_ret2
          exact ⟨g, c, turned (swp d i k) i, rfl, F1.out, F2.out, hg3, F4.out, F3.out⟩
end Go.Proofs.Ytiapphhldedckaa.Nx
