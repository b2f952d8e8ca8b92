/- The document's next row. -/
import Derived.Test.YtkbbpjknakajeaaTellsA
import Derived.BigRegion
namespace Go.Proofs.Ytkbbpjknakajeaa.Li
open Go.RowKit Go.Shelf Go.Sort
/-- a row of one's own -/
def RwF (w : World) (g : Nat) (d : Array Int) : Prop := ∀ j, j < d.size → w.cell? ⟨g, j, none⟩ = some (.int .i64 d[j]!) ∧ w.frozen? ⟨g, j, none⟩ = false
theorem rwf_swp {w : World} {g i k : Nat} {d : Array Int} (h : RwF w g d) (hi : i < d.size) (hk : k < d.size) (hne : i ≠ k) {x y : Int} (hx : d[k]! = x) (hy : d[i]! = y) :
    RwF ((w.setCell ⟨g, i, none⟩ (.int .i64 x)).setCell ⟨g, k, none⟩ (.int .i64 y)) g (swp d i k) := by
  subst hx hy
  intro j hj
  rw [size_swp] at hj
  refine ⟨?_, by rw [World.frozen?_setCell, World.frozen?_setCell]; exact (h j hj).2⟩
  have hk' : (w.setCell ⟨g, i, none⟩ (.int .i64 d[k]!)).cell? ⟨g, k, none⟩ = some (.int .i64 d[k]!) := by
    rw [World.cell?_setCell_other _ _ _ _ (by simp)]; exact (h k hk).1
  by_cases e1 : k = j
  · subst e1
    rw [World.cell?_setCell_same _ _ _ hk', swp_right d i k hk]
  · rw [World.cell?_setCell_other _ _ _ _ (by simp)]
    by_cases e2 : i = j
    · subst e2
      rw [World.cell?_setCell_same _ _ _ (h i hi).1, swp_left d i k hi hne]
    · rw [World.cell?_setCell_other _ _ _ _ (by simp), swp_other d i k j (fun e => e2 e.symm) (fun e => e1 e.symm)]
      exact (h j hj).1
/-- turned over so far -/
structure Rv (d : Array Int) (lo m : Nat) (e : Array Int) : Prop where
  sz : e.size = d.size
  mm : lo + 2 * m ≤ d.size + 1
  el : ∀ j, j < d.size → e[j]! = if (lo ≤ j ∧ j < lo + m) ∨ d.size ≤ j + m then d[d.size - 1 + lo - j]! else d[j]!
theorem Rv.start (d : Array Int) (lo : Nat) (h : lo ≤ d.size) : Rv d lo 0 d := ⟨rfl, by omega, fun j hj => by rw [if_neg (by omega)]⟩
theorem Rv.step {d e : Array Int} {lo m : Nat} (h : Rv d lo m e) (hlt : lo + m + (m + 1) < d.size) : Rv d lo (m + 1) (swp e (lo + m) (d.size - 1 - m)) := by
  refine ⟨by rw [size_swp]; exact h.sz, by omega, fun j hj => ?_⟩
  by_cases e1 : j = lo + m
  · subst e1
    rw [swp_left _ _ _ (by rw [h.sz]; omega) (by omega), h.el _ (by omega), if_neg (by omega), if_pos (by omega)]
    congr 1
    omega
  · by_cases e2 : j = d.size - 1 - m
    · subst e2
      rw [swp_right _ _ _ (by rw [h.sz]; omega), h.el _ (by omega), if_neg (by omega), if_pos (by omega)]
      congr 1
      omega
    · rw [swp_other _ _ _ _ e1 e2, h.el j hj]
      by_cases c : (lo ≤ j ∧ j < lo + m) ∨ d.size ≤ j + m
      · rw [if_pos c, if_pos (by omega)]
      · rw [if_neg c, if_neg (by omega)]
theorem Rv.done {d e : Array Int} {i m : Nat} (h : Rv d (i + 1) m e) (hi : i < d.size) (hge : d.size ≤ i + 1 + m + (m + 1)) : e = turned d i := by
  apply Array.ext
  · rw [h.sz, size_turned d i hi]
  · intro j h1 h2
    have hj : j < d.size := by rw [h.sz] at h1; exact h1
    have h3 := h.el j hj
    rw [getElem!_pos e j h1] at h3
    rw [h3]
    have h4 : (turned d i)[j] = (turned d i)[j]! := (getElem!_pos _ j h2).symm
    rw [h4]
    have hm := h.mm
    rcases Nat.lt_or_ge i j with h5 | h5
    · rw [turned_high d i j hi h5 hj]
      by_cases c : (i + 1 ≤ j ∧ j < i + 1 + m) ∨ d.size ≤ j + m
      · rw [if_pos c]; congr 1; omega
      · rw [if_neg c]; congr 1; omega
    · rw [turned_low d i j hi h5, if_neg (by omega)]
theorem info3n : (Try.prog.info? 3).map (fun i => (i.zero, i.size, i.bytes)) = some (some (.int .i64 0), 1, 8) := by kernel_rfl
theorem rwf_own {w : World} {B g c : Nat} {d : Array Int} (h : w.ownsRow B 3 1 (.slice (some ⟨g, 0, none⟩) d.size c) d.size (d.toList.map (Value.int .i64))) : RwF w g d := by
  intro j hj
  have h1 := h.cellAt j (by omega)
  refine ⟨?_, h.frozenAt j⟩
  rw [h1, List.getElem?_map, List.getElem?_eq_getElem (by simpa using hj), getElem!_pos d j hj]
  simp
def NextNone (w : World) (e : Ending) (w' : World) : Prop := e = .returned (.tuple #[.slice none 0 0, .bool false]) ∧ Below w.heap.size w w'
def NextSome (w : World) (d : Array Int) (i : Nat) (e : Ending) (w' : World) : Prop := ∃ g c r, e = .returned (.tuple #[.slice (some ⟨g, 0, none⟩) d.size c, .bool true]) ∧ NextAt d r i ∧ RwF w' g r ∧ d.size ≤ c ∧ w.heap.size ≤ g ∧ g < w'.heap.size ∧ Below w.heap.size w w'
set_option maxHeartbeats 3200000 in
set_option maxRecDepth 1000000 in
theorem nextN_none (b off cap : Nat) (d : Array Int) (w : World) (h0 : 0 < d.size) (hs : d.size ≤ 60) (hf : Falls d 0) (hr : Reads w b off d) :
    Calls Try.prog 32 #[.slice (some ⟨b, off, none⟩) d.size cap] w (NextNone w) := by
  obtain ⟨t0, hi, hz0, hz1, hz2⟩ := info_parts info3n
  have hown := World.ownsRow_made (base := w.heap.size) (e := 3) (size := 1) w #[] 0 (Nat.le_refl _) (by unfold maxLen; omega) rfl
  go_enter Try.func32, Try.ntmps32
  go_wp2_with (first
    | (at_builtin; refine wpList_append_own _ rfl _ _ 24 rfl w.heap.size 3 t0 _ 1 8 Try.underlying24 hi hz0 hz1 hz2 rfl (by decide) _ _ _ rfl hown ⟨b, off, none⟩ d.size cap (d.toList.map (Value.int .i64)) rfl ?c0 ?c1 ?c2 ?c3 ?c4 ?c5 ?_))
  case c0 => simp
  case c1 =>
    intro j u hu
    rw [List.getElem?_map] at hu
    have hjl : j < d.size := by
      rcases Nat.lt_or_ge j d.size with h | h
      · exact h
      · rw [List.getElem?_eq_none (by simpa using h)] at hu; cases hu
    rw [List.getElem?_eq_getElem (by simpa using hjl)] at hu
    have h2 := hr j hjl
    rw [getElem!_pos d j hjl] at h2
    rw [Addr.add_lit, World.cell?_alloc_lt _ _ _ (by exact World.block_lt_of_cell? w _ h2)]
    simp at hu
    subst hu
    exact h2
  case c2 => intro u hu; obtain ⟨z, _, rfl⟩ := List.mem_map.1 hu; rfl
  case c3 => unfold maxLen; omega
  case c4 => omega
  case c5 => simp
  intro v' w1 hown1 hgrow _
  obtain ⟨g, c, rfl, hc, hg3, hg2⟩ := own_some hown1 (by omega)
  have hH : RwF w1 g d := rwf_own (B := w.heap.size) (c := c) (by simpa using hown1)
  have hB1 : Below w.heap.size w w1 := ((Below.refl _ w).alloc (Nat.le_refl _) _).grown hgrow (by simp) (fun j hj => by simp [Value.ownBlock] at hj; omega)
  have HB1 := Lib.hid hB1
  have HH := Lib.hid hH
  clear hown hown1 hgrow hB1 hH hr
  go_wp2
  go_loopw [5] (fun s wr => ∃ (j q : Nat) (iz : Int), j + 1 ≤ d.size ∧ s = .int .i64 iz ∧ iz = (j : Int) - 1 ∧ wr = w1.drewN q) (fun s _ => (intOf s + 1).toNat)
  case atStart => exact ⟨d.size - 1, 0, _, by omega, rfl, by omega, rfl⟩
  case round =>
    obtain ⟨j, q, iz, hj, rfl, hiz, rfl⟩ := hrel
    rcases Nat.eq_zero_or_pos j with rfl | hpos
    · have h1 : iz < 0 := by omega
      have hd : decide (0 ≤ iz) = false := by simpa using h1
      clear hiz hf
      go_wp2_with fail
      go_quiet (fail)
      go_wp2
      go_ret2
      exact ⟨rfl, below_drewN HB1.out _⟩
    · obtain ⟨i, rfl⟩ : ∃ i, j = i + 1 := ⟨j - 1, by omega⟩
      obtain rfl : iz = (i : Int) := by omega
      have h1 : (0 : Int) ≤ (i : Int) := by omega
      have hd : decide ((0 : Int) ≤ (i : Int)) = true := by simp
      have ci := (HH.out i (by omega)).1
      have ci1 := (HH.out (i + 1) (by omega)).1
      have hi2 : (i : Int) < (d.size : Int) := by omega
      have hi3 : (i : Int) + 1 < (d.size : Int) := by omega
      have hle : d[i + 1]! ≤ d[i]! := hf i (by omega) (by omega)
      obtain ⟨x, hx⟩ : ∃ x, d[i]! = x := ⟨_, rfl⟩
      obtain ⟨y, hy⟩ : ∃ y, d[i + 1]! = y := ⟨_, rfl⟩
      rw [hx] at ci hle
      rw [hy] at ci1 hle
      clear hf hiz hx hy
      go_wp2_with fail
      go_quiet (fail)
      go_wp2
      go_roundw
      case rel => exact ⟨i, q + nq, (i : Int) - 1, by omega, rfl, rfl, rfl⟩
      case measure => simp [intOf]
set_option maxHeartbeats 3200000 in
set_option maxRecDepth 1000000 in
theorem nextN_some (b off cap : Nat) (d : Array Int) (w : World) (hs : d.size ≤ 60) (i0 : Nat) (hi0 : i0 + 1 < d.size) (hf : Falls d (i0 + 1)) (hup : d[i0]! < d[i0 + 1]!) (hr : Reads w b off d) :
    Calls Try.prog 32 #[.slice (some ⟨b, off, none⟩) d.size cap] w (NextSome w d i0) := by
  obtain ⟨t0, hi, hz0, hz1, hz2⟩ := info_parts info3n
  have hown := World.ownsRow_made (base := w.heap.size) (e := 3) (size := 1) w #[] 0 (Nat.le_refl _) (by unfold maxLen; omega) rfl
  go_enter Try.func32, Try.ntmps32
  go_wp2_with (first
    | (at_builtin; refine wpList_append_own _ rfl _ _ 24 rfl w.heap.size 3 t0 _ 1 8 Try.underlying24 hi hz0 hz1 hz2 rfl (by decide) _ _ _ rfl hown ⟨b, off, none⟩ d.size cap (d.toList.map (Value.int .i64)) rfl ?c0 ?c1 ?c2 ?c3 ?c4 ?c5 ?_))
  case c0 => simp
  case c1 =>
    intro j u hu
    rw [List.getElem?_map] at hu
    have hjl : j < d.size := by
      rcases Nat.lt_or_ge j d.size with h | h
      · exact h
      · rw [List.getElem?_eq_none (by simpa using h)] at hu; cases hu
    rw [List.getElem?_eq_getElem (by simpa using hjl)] at hu
    have h2 := hr j hjl
    rw [getElem!_pos d j hjl] at h2
    rw [Addr.add_lit, World.cell?_alloc_lt _ _ _ (by exact World.block_lt_of_cell? w _ h2)]
    simp at hu
    subst hu
    exact h2
  case c2 => intro u hu; obtain ⟨z, _, rfl⟩ := List.mem_map.1 hu; rfl
  case c3 => unfold maxLen; omega
  case c4 => omega
  case c5 => simp
  intro v' w1 hown1 hgrow _
  obtain ⟨g, c, rfl, hc, hg3, hg2⟩ := own_some hown1 (by omega)
  have hH : RwF w1 g d := rwf_own (B := w.heap.size) (c := c) (by simpa using hown1)
  have hB1 : Below w.heap.size w w1 := ((Below.refl _ w).alloc (Nat.le_refl _) _).grown hgrow (by simp) (fun j hj => by simp [Value.ownBlock] at hj; omega)
  have HB1 := Lib.hid hB1
  have HH := Lib.hid hH
  clear hown hown1 hgrow hB1 hH hr
  go_wp2
  go_loopw [5] (fun s wr => ∃ (j q : Nat) (iz : Int), j + 1 ≤ d.size ∧ i0 + 1 ≤ j ∧ s = .int .i64 iz ∧ iz = (j : Int) - 1 ∧ wr = w1.drewN q) (fun s _ => (intOf s + 1).toNat)
  case atStart => exact ⟨d.size - 1, 0, _, by omega, by omega, rfl, by omega, rfl⟩
  case round =>
    obtain ⟨j, q, iz, hj, hji, rfl, hiz, rfl⟩ := hrel
    obtain ⟨i, rfl⟩ : ∃ i, j = i + 1 := ⟨j - 1, by omega⟩
    obtain rfl : iz = (i : Int) := by omega
    have h1 : (0 : Int) ≤ (i : Int) := by omega
    have hd : decide ((0 : Int) ≤ (i : Int)) = true := by simp
    have ci := (HH.out i (by omega)).1
    have ci1 := (HH.out (i + 1) (by omega)).1
    have hi2 : (i : Int) < (d.size : Int) := by omega
    have hi3 : (i : Int) + 1 < (d.size : Int) := by omega
    rcases Nat.lt_or_ge i0 i with hlt | hge
    · have hle : d[i + 1]! ≤ d[i]! := hf i (by omega) (by omega)
      have HU := Lib.hid (And.intro hup hf)
      obtain ⟨x, hx⟩ : ∃ x, d[i]! = x := ⟨_, rfl⟩
      obtain ⟨y, hy⟩ : ∃ y, d[i + 1]! = y := ⟨_, rfl⟩
      rw [hx] at ci hle
      rw [hy] at ci1 hle
      clear hf hiz hx hy hup
      go_wp2_with fail
      go_quiet (fail)
      go_wp2
      go_roundw
      case rel => exact ⟨i, q + nq, (i : Int) - 1, by omega, by omega, rfl, rfl, rfl⟩
      case measure => simp [intOf]
    · obtain rfl : i = i0 := by omega
      have hlt : ¬ d[i + 1]! ≤ d[i]! := by omega
      have HU := Lib.hid (And.intro hup hf)
      obtain ⟨x, hx⟩ : ∃ x, d[i]! = x := ⟨_, rfl⟩
      obtain ⟨y, hy⟩ : ∃ y, d[i + 1]! = y := ⟨_, rfl⟩
      rw [hx] at ci hlt
      rw [hy] at ci1 hlt
      have HX := Lib.hid hx
      have HY := Lib.hid hy
      clear hf hiz hx hy hup
      go_wp2_with fail
      go_quiet (fail)
      go_wp2
      go_loopw [6] (fun s wr => ∃ (k m : Nat), i < k ∧ k < d.size ∧ s = .int .i64 k ∧ wr = w1.drewN m ∧ Hid (∀ t, k < t → t < d.size → d[t]! ≤ d[i]!)) (fun s _ => (intOf s).toNat)
      case atStart => exact ⟨d.size - 1, q + nq, by omega, by omega, by go_num, rfl, Lib.hid (fun t h1 h2 => by omega)⟩
      case round =>
        clear ci1
        obtain ⟨k, m, hk1, hk2, rfl, rfl, hall⟩ := hrel
        have hk3 : (0 : Int) ≤ (k : Int) := by omega
        have hk4 : (k : Int) < (d.size : Int) := by omega
        obtain ⟨z, hz⟩ : ∃ z, d[k]! = z := ⟨_, rfl⟩
        have ek := (HH.out k hk2).1
        rw [hz] at ek
        have HZ := Lib.hid hz
        clear hz
        by_cases hzx : z ≤ x
        · go_wp2_with fail
          go_quiet (fail)
          go_wp2
          have hki : k ≠ i + 1 := by
            rintro rfl
            have h1 := HU.out.1
            have h2 := HZ.out
            have h3 := HX.out
            omega
          go_roundw
          case rel =>
            refine ⟨k - 1, m + nq, by omega, by omega, by go_num, rfl, Lib.hid (fun t h1 h2 => ?_)⟩
            rcases Nat.lt_or_ge k t with h3 | h3
            · exact hall.out t h3 h2
            · obtain rfl : t = k := by omega
              rw [HZ.out, HX.out]; exact hzx
          case measure => simp [intOf]; omega
        · have fi := (HH.out i (by omega)).2
          have fk := (HH.out k hk2).2
          go_wp2_with fail
          go_quiet (fail)
          go_wp2_with fail
          go_region
          obtain ⟨W5, hW5⟩ : ∃ W5, ((w1.drewN (m + nq + 1)).setCell ⟨g, i, none⟩ (.int .i64 z)).setCell ⟨g, k, none⟩ (.int .i64 x) = W5 := ⟨_, rfl⟩
          have hR5 : RwF W5 g (swp d i k) := by rw [← hW5]; exact rwf_swp (w := w1.drewN (m + nq + 1)) HH.out (by omega) hk2 (by omega) HZ.out HX.out
          have hB5 : Below w.heap.size w W5 := by rw [← hW5]; exact ((below_drewN HB1.out _).setCell hg3 _).setCell hg3 _
          have hg5 : g < W5.heap.size := by rw [← hW5]; simpa [World.setCell] using hg2
          rw [hW5]
          have hn5 : NextAt d (turned (swp d i k) i) i := by
            have h1 := HU.out
            have h2 := HZ.out
            have h3 := HX.out
            exact next_turned hk1 hk2 h1.2 h1.1 (by omega) hall.out
          have hsz : (swp d i k).size = d.size := size_swp d i k
          have HN5 := Lib.hid (And.intro hn5 hsz)
          have HR5 := Lib.hid (And.intro hR5 (And.intro hB5 hg5))
          obtain ⟨e0, he0⟩ : ∃ e0, swp d i k = e0 := ⟨_, rfl⟩
          rw [he0] at HN5 HR5
          clear hn5 hsz hR5 hB5 hg5 hW5 ci ek fi fk he0 hall HZ HX HY HU
          go_wp2
          go_loopw [7, 8] (fun s7 s8 wr => ∃ (n : Nat) (e : Array Int) (y : Int), s7 = .int .i64 ((i + 1 + n : Nat) : Int) ∧ s8 = .int .i64 y ∧ y = (d.size : Int) - 1 - n ∧ Hid (Rv e0 (i + 1) n e) ∧ Hid (RwF wr g e ∧ Below w.heap.size w wr ∧ g < wr.heap.size)) (fun s7 _ _ => d.size - (intOf s7).toNat)
          case atStart => exact ⟨0, e0, _, by simp, rfl, by simp, Lib.hid (Rv.start e0 (i + 1) (by have := HN5.out.2; omega)), HR5⟩
          case round =>
            obtain ⟨n, e, y, rfl, rfl, hy, hV, hR⟩ := hrel
            have hes : e.size = d.size := hV.out.sz.trans HN5.out.2
            have hmm := hV.out.mm
            rw [HN5.out.2] at hmm
            by_cases hlt2 : i + 1 + n + (n + 1) < d.size
            · obtain ⟨b', hb'⟩ : ∃ b', d.size - 1 - n = b' := ⟨_, rfl⟩
              obtain ⟨a', ha'⟩ : ∃ a', i + 1 + n = a' := ⟨_, rfl⟩
              obtain rfl : y = (b' : Int) := by omega
              have q1 : (a' : Int) < (b' : Int) := by omega
              have q2 : (0 : Int) ≤ (a' : Int) := by omega
              have q3 : (a' : Int) < (d.size : Int) := by omega
              have q4 : (0 : Int) ≤ (b' : Int) := by omega
              have q5 : (b' : Int) < (d.size : Int) := by omega
              obtain ⟨u, hu⟩ : ∃ u, e[a']! = u := ⟨_, rfl⟩
              obtain ⟨v, hv⟩ : ∃ v, e[b']! = v := ⟨_, rfl⟩
              have ca := hR.out.1 a' (by omega)
              have cb := hR.out.1 b' (by omega)
              rw [hu] at ca
              rw [hv] at cb
              obtain ⟨ca1, ca2⟩ := ca
              obtain ⟨cb1, cb2⟩ := cb
              have hsw := rwf_swp (w := wr.drew) hR.out.1 (i := a') (k := b') (by omega) (by omega) (by omega) hv hu
              have hst := hV.out.step (by rw [HN5.out.2]; omega)
              rw [HN5.out.2, hb', ha'] at hst
              have HSW := Lib.hid (And.intro hsw (And.intro hst (And.intro ha' hb')))
              rw [ha']
              clear hsw hst hu hv hy ha' hb' hmm hes
              go_wp2_with fail
              go_region
              go_wp2
              go_roundw
              case rel =>
                refine ⟨n + 1, _, (d.size : Int) - 1 - (n + 1 : Nat), ?_, ?_, rfl, Lib.hid HSW.out.2.1, Lib.hid ⟨HSW.out.1, (((hR.out.2.1.drew).setCell hg3 _).setCell hg3 _), by simpa [World.setCell] using hR.out.2.2⟩⟩
                · have := HSW.out.2.2.1; go_num
                · have := HSW.out.2.2.2; go_num
              case measure => simp [intOf]; omega
            · have hfin := hV.out.done (by rw [HN5.out.2]; omega) (by rw [HN5.out.2]; omega)
              have hle : ¬ ((i + 1 + n : Nat) : Int) < y := by omega
              subst hfin
              clear hy hmm hes
              go_wp2
              go_ret2
              exact ⟨g, c, _, rfl, HN5.out.1, hR.out.1, hc, hg3, hR.out.2.2, hR.out.2.1⟩
end Go.Proofs.Ytkbbpjknakajeaa.Li
