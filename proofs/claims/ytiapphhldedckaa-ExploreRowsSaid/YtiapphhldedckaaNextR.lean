/- The document's Next: what it answers. -/
import Derived.Test.YtiapphhldedckaaNextPlain3
import Derived.Test.YtiapphhldedckaaNextE
namespace Go.Proofs.Ytiapphhldedckaa.Nx
open Go.RowKit Go.Sort
set_option maxHeartbeats 1600000 in
set_option maxRecDepth 1000000 in
theorem nextR_short (a : Option Addr) (cap : Nat) (w : World) :
    Calls Try.prog 17 #[.slice a 0 cap] w fun e w' => e = .returned (.tuple #[.slice none 0 0, .bool false]) ∧ ∃ n, w' = w.drewN n := by
  go_enter Try.func17, Try.ntmps17
  go_wp2
  refine wp_loop_rounds 1 ?_
  rw [rounds_succ]
  go_wp2
  go_ret2
  exact ⟨rfl, 0, rfl⟩
set_option maxHeartbeats 1600000 in
set_option maxRecDepth 1000000 in
theorem nextR_none (b off cap : Nat) (d : Array Int) (w : World) (h0 : 0 < d.size) (hs : d.size ≤ 60) (hf : Falls d 0) (hr : Reads w b off d) :
    Calls Try.prog 17 #[.slice (some ⟨b, off, none⟩) d.size cap] w fun e w' => e = .returned (.tuple #[.slice none 0 0, .bool false]) ∧ ∃ n, w' = w.drewN n := by
  go_enter Try.func17, Try.ntmps17
  go_wp2
  go_loopw [4] (fun s wr => ∃ (j q : Nat) (iz : Int), j + 1 ≤ d.size ∧ s = .int .i64 iz ∧ iz = (j : Int) - 1 ∧ wr = w.drewN q) (fun s _ => (intOf s + 1).toNat)
  case atStart => exact ⟨d.size - 1, 0, _, by omega, rfl, by omega, rfl⟩
  case round =>
    obtain ⟨j, q, iz, hj, rfl, hiz, rfl⟩ := hrel
    rcases Nat.eq_zero_or_pos j with rfl | hpos
    · have h1 : iz < 0 := by omega
      have hd : decide (0 ≤ iz) = false := by simpa using h1
      clear hiz hr hf
      go_wp2
      go_ret2
      exact ⟨rfl, _, rfl⟩
    · obtain ⟨i, rfl⟩ : ∃ i, j = i + 1 := ⟨j - 1, by omega⟩
      obtain rfl : iz = (i : Int) := by omega
      have h1 : (0 : Int) ≤ (i : Int) := by omega
      have hd : decide ((0 : Int) ≤ (i : Int)) = true := by simp
      have HR := Lib.hid hr
      have HF := Lib.hid hf
      clear hr hf hiz
      go_wp2_with fail
      go_loopw [5, 6] (fun s5 s6 wr => ∃ (k m : Nat), i < k ∧ k ≤ d.size ∧ s5 = .int .i64 (-1) ∧ s6 = .int .i64 k ∧ wr = w.drewN m) (fun _ s _ => d.size - (intOf s).toNat)
      case atStart => exact ⟨i + 1, q, by omega, by omega, rfl, by go_num, rfl⟩
      case round =>
        obtain ⟨k, m, hk1, hk2, rfl, rfl, rfl⟩ := hrel
        by_cases hlt : k < d.size
        · have ci := HR.out i (by omega)
          have ck := HR.out k (by omega)
          have hle : ¬ d[i]! < d[k]! := by
            have := falls_le HF.out (k - i) i (by omega) (by omega)
            rw [show i + (k - i) = k from by omega] at this
            omega
          have hi2 : (i : Int) < (d.size : Int) := by omega
          have hk3 : (k : Int) < (d.size : Int) := by omega
          have hk0 : (0 : Int) ≤ (k : Int) := by omega
          generalize d[i]! = x at *
          generalize d[k]! = y at *
          have hg : decide (x < y) = false := by simpa using hle
          go_wp2_with fail
          go_quiet (fail)
          go_wp2
          go_roundw
          case rel => exact ⟨k + 1, m + nq, by omega, by omega, rfl, by go_num, rfl⟩
          case measure => simp [intOf]; omega
        · obtain rfl : k = d.size := by omega
          go_wp2
          go_roundw
          case rel => exact ⟨i, m, (i : Int) - 1, by omega, rfl, rfl, rfl⟩
          case measure => simp [intOf]
theorem swap_drew {w : World} {g i j : Nat} {d : Array Int} (hH : Holds encI w g 0 d) (hi : i < d.size) (hj : j < d.size) {x y : Int} (hx : d[j]! = x) (hy : d[i]! = y) :
    ((w.setCell ⟨g, i, none⟩ (.int .i64 x)).setCell ⟨g, j, none⟩ (.int .i64 y)).drew = putRow encI (Sort.ahead w 1) g 0 (swp d i j) := by
  have h := swap_world0 (n := 1) hH hi hj hx hy
  exact h
theorem putRow_facts {w w1 : World} {g n : Nat} {d d' : Array Int} (hH : Holds encI w1 g 0 d) (hs : d'.size = d.size) (hB : Below w.heap.size w w1) (hg : w.heap.size ≤ g) (hl : g < w1.heap.size) :
    Holds encI (putRow encI (Sort.ahead w1 n) g 0 d') g 0 d' ∧ Below w.heap.size w (putRow encI (Sort.ahead w1 n) g 0 d') ∧ g < (putRow encI (Sort.ahead w1 n) g 0 d').heap.size :=
  ⟨holds_putRow encI _ g 0 d _ (holds_ahead _ _ _ _ _ _ hH) hs, below_putRow hB hg _ _ _, by rw [size_putRow]; exact hl⟩
theorem Try.info3 : (Try.prog.info? 3).map (fun i => (i.zero, i.size, i.bytes)) = some (some (.int .i64 0), 1, 8) := by kernel_rfl
set_option maxHeartbeats 4000000 in
set_option maxRecDepth 1000000 in
theorem nextR_some (b off cap : Nat) (d : Array Int) (w : World) (hs : d.size ≤ 60) (i0 : Nat) (hi0 : i0 + 1 < d.size) (hf : Falls d (i0 + 1)) (hup : d[i0]! < d[i0 + 1]!) (hr : Reads w b off d) :
    Calls Try.prog 17 #[.slice (some ⟨b, off, none⟩) d.size cap] w (SomeNext w d i0) := by
  obtain ⟨t0, hi, hz0, hz1, hz2⟩ := info_parts Try.info3
  go_enter Try.func17, Try.ntmps17
  go_wp2
  go_loopw [4] (fun s wr => ∃ (j q : Nat) (iz : Int), j + 1 ≤ d.size ∧ i0 + 1 ≤ j ∧ s = .int .i64 iz ∧ iz = (j : Int) - 1 ∧ wr = w.drewN q) (fun s _ => (intOf s + 1).toNat)
  case atStart => exact ⟨d.size - 1, 0, _, by omega, by omega, rfl, by omega, rfl⟩
  case round =>
    obtain ⟨j, q, iz, hj, hji, rfl, hiz, rfl⟩ := hrel
    obtain ⟨i, rfl⟩ : ∃ i, j = i + 1 := ⟨j - 1, by omega⟩
    obtain rfl : iz = (i : Int) := by omega
    have h1 : (0 : Int) ≤ (i : Int) := by omega
    have hd : decide ((0 : Int) ≤ (i : Int)) = true := by simp
    have HR := Lib.hid hr
    have HF := Lib.hid hf
    clear hr hf hiz
    rcases Nat.lt_or_ge i0 i with hlt0 | hge
    · go_wp2_with fail
      go_loopw [5, 6] (fun s5 s6 wr => ∃ (k m : Nat), i < k ∧ k ≤ d.size ∧ s5 = .int .i64 (-1) ∧ s6 = .int .i64 k ∧ wr = w.drewN m) (fun _ s _ => d.size - (intOf s).toNat)
      case atStart => exact ⟨i + 1, q, by omega, by omega, rfl, by go_num, rfl⟩
      case round =>
        obtain ⟨k, m, hk1, hk2, rfl, rfl, rfl⟩ := hrel
        by_cases hlt : k < d.size
        · have ci := HR.out i (by omega)
          have ck := HR.out k (by omega)
          have hle : ¬ d[i]! < d[k]! := by
            have := falls_le HF.out (k - i) i (by omega) (by omega)
            rw [show i + (k - i) = k from by omega] at this
            omega
          have hi2 : (i : Int) < (d.size : Int) := by omega
          have hk3 : (k : Int) < (d.size : Int) := by omega
          have hk0 : (0 : Int) ≤ (k : Int) := by omega
          have HU := Lib.hid hup
          clear hup
          generalize d[i]! = x at *
          generalize d[k]! = y at *
          have hg : decide (x < y) = false := by simpa using hle
          go_wp2_with fail
          go_quiet (fail)
          go_wp2
          go_roundw
          case rel => exact ⟨k + 1, m + nq, by omega, by omega, rfl, by go_num, rfl⟩
          case measure => simp [intOf]; omega
        · obtain rfl : k = d.size := by omega
          go_wp2
          go_roundw
          case rel => exact ⟨i, m, (i : Int) - 1, by omega, by omega, rfl, rfl, rfl⟩
          case measure => simp [intOf]
    · obtain rfl : i = i0 := by omega
      have HU := Lib.hid hup
      clear hup
      obtain ⟨x, hx⟩ : ∃ x, d[i]! = x := ⟨_, rfl⟩
      have HX := Lib.hid hx
      clear hx
      go_wp2_with fail
      go_loopw [5, 6] (fun s5 s6 wr => ∃ (k m : Nat) (bz : Int), i < k ∧ k ≤ d.size ∧ s5 = .int .i64 bz ∧ s6 = .int .i64 k ∧ wr = w.drewN m ∧ Hid ((bz = -1 ∧ NoBest d i k) ∨ ∃ best : Nat, bz = best ∧ Best d i k best)) (fun _ s _ => d.size - (intOf s).toNat)
      case atStart => exact ⟨i + 1, q, -1, by omega, by omega, rfl, by go_num, rfl, Lib.hid (.inl ⟨rfl, fun t h1 h2 => by omega⟩)⟩
      case round =>
        obtain ⟨k, m, bz, hk1, hk2, rfl, rfl, rfl, hbz⟩ := hrel
        by_cases hlt : k < d.size
        · obtain ⟨y, hy⟩ : ∃ y, d[k]! = y := ⟨_, rfl⟩
          have HY := Lib.hid hy
          clear hy
          have ci : w.cell? ⟨b, off + i, none⟩ = some (.int .i64 x) := by have := HR.out i (by omega); rwa [HX.out] at this
          have ck : w.cell? ⟨b, off + k, none⟩ = some (.int .i64 y) := by have := HR.out k (by omega); rwa [HY.out] at this
          have hi2 : (i : Int) < (d.size : Int) := by omega
          have hk3 : (k : Int) < (d.size : Int) := by omega
          have hk0 : (0 : Int) ≤ (k : Int) := by omega
          by_cases hxy : x < y
          · have hg : decide (x < y) = true := by simpa using hxy
            rcases hbz.out with ⟨e1, hn⟩ | ⟨best, e1, hB⟩
            · subst e1
              have hBn : Best d i (k + 1) k := hn.first hk1 (by rw [HX.out, HY.out]; exact hxy)
              have HBn := Lib.hid hBn
              clear hBn hn hbz
              go_wp2_with fail
              go_quiet (fail)
              go_wp2
              go_roundw
              case rel => exact ⟨k + 1, m + nq, k, by omega, by omega, rfl, by go_num, rfl, Lib.hid (.inr ⟨k, rfl, HBn.out⟩)⟩
              case measure => simp [intOf]; omega
            · subst e1
              obtain ⟨z, hz⟩ : ∃ z, d[best]! = z := ⟨_, rfl⟩
              have HZ := Lib.hid hz
              clear hz
              have hb1 := hB.lt
              have hb2 := hB.bd
              have cb : w.cell? ⟨b, off + best, none⟩ = some (.int .i64 z) := by have := HR.out best (by omega); rwa [HZ.out] at this
              have hb3 : (0 : Int) ≤ (best : Int) := by omega
              have hb4 : (best : Int) < (d.size : Int) := by omega
              have hg2 : decide ((best : Int) < 0) = false := by simp
              have HB := Lib.hid hB
              clear hB hbz
              by_cases hyz : y < z
              · have hBn : Best d i (k + 1) k := HB.out.better (by rw [HX.out, HY.out]; exact hxy) (by rw [HZ.out, HY.out]; exact hyz)
                have HBn := Lib.hid hBn
                clear hBn
                go_wp2_with fail
                go_quiet (fail)
                go_wp2
                go_roundw
                case rel => exact ⟨k + 1, m + nq, k, by omega, by omega, rfl, by go_num, rfl, Lib.hid (.inr ⟨k, rfl, HBn.out⟩)⟩
                case measure => simp [intOf]; omega
              · have hBn : Best d i (k + 1) best := HB.out.keep (by rw [HX.out, HY.out, HZ.out]; omega)
                have HBn := Lib.hid hBn
                clear hBn
                go_wp2_with fail
                go_quiet (fail)
                go_wp2
                go_roundw
                case rel => exact ⟨k + 1, m + nq, best, by omega, by omega, rfl, by go_num, rfl, Lib.hid (.inr ⟨best, rfl, HBn.out⟩)⟩
                case measure => simp [intOf]; omega
          · have hg : decide (x < y) = false := by simpa using hxy
            have hnew : (bz = -1 ∧ NoBest d i (k + 1)) ∨ ∃ best : Nat, bz = best ∧ Best d i (k + 1) best := by
              rcases hbz.out with ⟨e1, hn⟩ | ⟨best, e1, hB⟩
              · exact .inl ⟨e1, hn.keep (by rw [HX.out, HY.out]; omega)⟩
              · exact .inr ⟨best, e1, hB.keep (by rw [HX.out, HY.out]; omega)⟩
            have HN := Lib.hid hnew
            clear hnew hbz
            go_wp2_with fail
            go_quiet (fail)
            go_wp2
            go_roundw
            case rel => exact ⟨k + 1, m + nq, bz, by omega, by omega, rfl, by go_num, rfl, HN⟩
            case measure => simp [intOf]; omega
        · obtain rfl : k = d.size := by omega
          obtain ⟨best, rfl, hB⟩ : ∃ best : Nat, bz = best ∧ Best d i d.size best := by
            rcases hbz.out with ⟨_, hn⟩ | h
            · have h2 := hn (i + 1) (by omega) (by omega)
              have := HU.out
              omega
            · exact h
          have hb1 := hB.lt
          have hb2 := hB.bd
          have hb3 : (0 : Int) ≤ (best : Int) := by omega
          have hb4 : (best : Int) < (d.size : Int) := by omega
          have HB := Lib.hid hB
          clear hB hbz
          have hown := World.ownsRow_made (base := w.heap.size) (e := 3) (size := 1) (w.drewN m) #[] 0 (Nat.le_refl _) (by unfold maxLen; omega) rfl
          go_wp2_with (first
            | (at_builtin; refine wpList_append_own _ rfl _ _ 22 rfl w.heap.size 3 t0 _ 1 8 Try.underlying22 hi hz0 hz1 hz2 rfl (by decide) _ _ _ rfl hown ⟨b, off, none⟩ d.size cap (d.toList.map (Value.int .i64)) rfl ?c0 ?c1 ?c2 ?c3 ?c4 ?c5 ?_))
          case c0 => simp
          case c1 =>
            intro j u hu
            rw [List.getElem?_map] at hu
            have hjl : j < d.size := by
              rcases Nat.lt_or_ge j d.size with h | h
              · exact h
              · rw [List.getElem?_eq_none (by simpa using h)] at hu; cases hu
            rw [List.getElem?_eq_getElem (by simpa using hjl)] at hu
            have h2 := HR.out j hjl
            rw [getElem!_pos d j hjl] at h2
            rw [Addr.add_lit, World.cell?_alloc_lt _ _ _ (by exact World.block_lt_of_cell? w _ h2)]
            simp at hu
            subst hu
            exact h2
          case c2 => intro u hu; obtain ⟨z, _, rfl⟩ := List.mem_map.1 hu; rfl
          case c3 => unfold maxLen; omega
          case c4 => omega
          case c5 => simp
          intro v' w1 hown1 hgrow _
          obtain ⟨g, c, rfl, hc, hg3, hg2⟩ := own_some hown1 (by omega)
          have hH : Holds encI w1 g 0 d := by
            have := own_holds (g := g) (cap := c) (zs := d.toList) (w := w1) (by simpa using hown1)
            simpa using this
          have hB1 : Below w.heap.size w w1 := ((below_drewN (Below.refl _ w) m).alloc (by exact Nat.le_refl _) _).grown hgrow (by simp) (fun j hj => by simp [Value.ownBlock] at hj; omega)
          have HB1 := Lib.hid hB1
          have HH := Lib.hid hH
          clear hown hown1 hgrow hB1 hH
          obtain ⟨z, hz⟩ : ∃ z, d[best]! = z := ⟨_, rfl⟩
          have HZ := Lib.hid hz
          clear hz
          have ei : w1.cell? ⟨g, i, none⟩ = some (.int .i64 x) := by have := (HH.out i (by omega)).1; rw [Nat.zero_add, HX.out] at this; exact this
          have ek : w1.cell? ⟨g, best, none⟩ = some (.int .i64 z) := by have := (HH.out best hb2).1; rw [Nat.zero_add, HZ.out] at this; exact this
          have fi : w1.frozen? ⟨g, i, none⟩ = false := by have := (HH.out i (by omega)).2; rw [Nat.zero_add] at this; exact this
          have fk : w1.frozen? ⟨g, best, none⟩ = false := by have := (HH.out best hb2).2; rw [Nat.zero_add] at this; exact this
          have hi2 : (i : Int) < (d.size : Int) := by omega
          have hci : ¬ c = i + 1 := by omega
          have hcs : i + 1 ≤ c := by omega
          have his : i + 1 ≤ d.size := by omega
          go_wp2_with fail
          go_region
          rw [swap_drew HH.out (by omega) hb2 HZ.out HX.out]
          have HF3 := putRow_facts (n := 1) HH.out (size_swp d i best) HB1.out hg3 hg2
          obtain ⟨W, hW⟩ : ∃ W, W = putRow encI (Sort.ahead w1 1) g 0 (swp d i best) := ⟨_, rfl⟩
          rw [← hW] at HF3 ⊢
          have HW := Lib.hid HF3
          clear HF3 hW ei ek fi fk
          go_wp2_with fail
          generalize hn : d.size - (i + 1) = n
          have HN := Lib.hid hn
          clear hn
          generalize c - (i + 1) = c'
          have hn0 : i + 1 + n = d.size := by have := HN.out; omega
          have hn60 : n ≤ 60 := by omega
          have HN0 := Lib.hid hn0
          clear hn0
          go_loopw [76] (fun s wr => ∃ (a : Nat) (dk : Array Int), a ≤ n ∧ s = .int .i64 a ∧ Hid (Holds encI wr g 0 dk ∧ Below w.heap.size w wr ∧ g < wr.heap.size) ∧ Hid (Sorting (swp d i best) dk (i + 1) a)) (fun s _ => n - (intOf s).toNat)
          case atStart => exact ⟨0, _, Nat.zero_le _, rfl, HW, Lib.hid (Sorting.start _ _)⟩
          case round =>
            obtain ⟨a, dk, ha, rfl, HK, HS⟩ := hrel
            by_cases hlt : a < n
            · have ha0 : (0 : Int) ≤ (a : Int) := by omega
              have ha1 : (a : Int) < (n : Int) := by omega
              obtain ⟨wo, rfl⟩ : ∃ wo : World, wo = wr := ⟨_, rfl⟩
              go_wp2_with fail
              go_loopw [10] (fun s wr => ∃ (b : Nat) (dk : Array Int), a < b ∧ b ≤ n ∧ s = .int .i64 b ∧ Hid (Holds encI wr g 0 dk ∧ Below w.heap.size w wr ∧ g < wr.heap.size) ∧ Hid (Sorting (swp d i best) dk (i + 1) a ∧ Inner (swp d i best) dk (i + 1) a b)) (fun s _ => n - (intOf s).toNat)
              case atStart => exact ⟨a + 1, dk, by omega, by omega, by go_num, HK, Lib.hid ⟨HS.out, Inner.start _ _ _ _⟩⟩
              case round =>
                clear HK HS
                obtain ⟨q, dj, hq1, hq2, rfl, HK, HS⟩ := hrel
                have hdj : dj.size = d.size := by rw [HS.out.1.perm.1, size_swp]
                have HJ := Lib.hid hdj
                clear hdj
                by_cases hltq : q < n
                · have hq3 : (0 : Int) ≤ (q : Int) := by omega
                  have hq4 : (q : Int) < (n : Int) := by omega
                  obtain ⟨ya, hya⟩ : ∃ y, dj[i + 1 + a]! = y := ⟨_, rfl⟩
                  obtain ⟨yq, hyq⟩ : ∃ y, dj[i + 1 + q]! = y := ⟨_, rfl⟩
                  have ea : wr.cell? ⟨g, i + 1 + a, none⟩ = some (.int .i64 ya) := by have := (HK.out.1 (i + 1 + a) (by have := HJ.out; have := HN0.out; omega)).1; rw [Nat.zero_add, hya] at this; exact this
                  have eq : wr.cell? ⟨g, i + 1 + q, none⟩ = some (.int .i64 yq) := by have := (HK.out.1 (i + 1 + q) (by have := HJ.out; have := HN0.out; omega)).1; rw [Nat.zero_add, hyq] at this; exact this
                  have fa : wr.frozen? ⟨g, i + 1 + a, none⟩ = false := by have := (HK.out.1 (i + 1 + a) (by have := HJ.out; have := HN0.out; omega)).2; rw [Nat.zero_add] at this; exact this
                  have fq : wr.frozen? ⟨g, i + 1 + q, none⟩ = false := by have := (HK.out.1 (i + 1 + q) (by have := HJ.out; have := HN0.out; omega)).2; rw [Nat.zero_add] at this; exact this
                  have HYA := Lib.hid hya
                  have HYQ := Lib.hid hyq
                  clear hya hyq
                  by_cases hyy : yq < ya
                  · have hgd : decide (yq < ya) = true := by simpa using hyy
                    go_wp2_with fail
                    go_quiet (fail)
                    go_wp2_with fail
                    go_region
                    go_wp2
                    go_roundw
                    case rel =>
                      have hs1 := HS.out.1.swap HS.out.2 hq1 (by rw [size_swp]; have := HN0.out; omega) (by rw [HYA.out, HYQ.out]; exact hyy)
                      have hf1 := putRow_facts (n := nq + 1) (d' := swp dj (i + 1 + a) (i + 1 + q)) HK.out.1 (size_swp _ _ _) HK.out.2.1 hg3 HK.out.2.2
                      rw [← swap_world0 (n := nq + 1) HK.out.1 (by have := HJ.out; have := HN0.out; omega) (by have := HJ.out; have := HN0.out; omega) HYQ.out HYA.out] at hf1
                      exact ⟨q + 1, _, by omega, by omega, by go_num, Lib.hid hf1, Lib.hid hs1⟩
                    case measure => simp [intOf]; omega
                  · have hgd : decide (yq < ya) = false := by simpa using hyy
                    go_wp2_with fail
                    go_quiet (fail)
                    go_wp2
                    go_roundw
                    case rel => exact ⟨q + 1, dj, by omega, by omega, by go_num, Lib.hid ⟨HK.out.1, below_drewN HK.out.2.1 _, HK.out.2.2⟩, Lib.hid ⟨HS.out.1, HS.out.2.keep (by rw [HYA.out, HYQ.out]; omega)⟩⟩
                    case measure => simp [intOf]; omega
                · obtain rfl : n = q := by omega
                  go_wp2
                  go_roundw
                  case rel => exact ⟨a + 1, dj, by omega, by go_num, HK, Lib.hid (HS.out.1.step HS.out.2 (by rw [size_swp]; have := HN0.out; omega))⟩
                  case measure => simp [intOf]; omega
            · obtain rfl : n = a := by omega
              go_wp2
              go_ret2
              exact ⟨g, c, dk, rfl, next_sorted HB.out HF.out HU.out HS.out (by have := HN0.out; omega), HK.out.1, hg3, HK.out.2.2, HK.out.2.1⟩
end Go.Proofs.Ytiapphhldedckaa.Nx
