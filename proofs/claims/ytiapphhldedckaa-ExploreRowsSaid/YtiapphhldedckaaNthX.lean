/- What the program's Nth answers, of a number that there is. -/
import Derived.Test.YtiapphhldedckaaNthW
namespace Go.Proofs.Ytiapphhldedckaa.Ex
open Go.RowKit Go.Sort Nx
theorem sum_n (a : Option Addr) (cap n : Nat) (d : Array Int) (w : World) (hn : d.size = n) (h8 : d.size ≤ 8) (hf : Fine d) (h : SliceOf w a d) :
    Calls Try.prog 25 #[.slice a n cap] w fun e w' => e = .returned (.int .i64 (((nats d).sum : Nat) : Int)) ∧ w = w' := by subst hn; exact sum_any a cap d w h8 hf h
theorem count_n (a : Option Addr) (cap n : Nat) (d : Array Int) (w : World) (hn : d.size = n) (h8 : d.size ≤ 8) (hf : Fine d) (h : SliceOf w a d) :
    Calls Try.prog 23 #[.slice a n cap] w fun e w' => e = .returned (.int .i64 (((cnt (nats d)).getD FAR : Nat) : Int)) ∧ ∃ m, w' = w.drewN m := by subst hn; exact count_any a cap d w h8 hf h
theorem own_base {w : World} {base base' : Nat} {e : TypeId} {size n : Nat} {v : Value} {xs : List Value} (h : w.ownsRow base e size v n xs) (hb : base' ≤ base) : w.ownsRow base' e size v n xs := by
  refine ⟨h.1, ?_⟩
  rcases h.2 with h1 | ⟨g, cap, cur, h1, h2, h3⟩
  · exact .inl h1
  · exact .inr ⟨g, cap, cur, h1, Nat.le_trans hb h2, h3⟩
def NthRes (w : World) (row : List Int) (e : Ending) (w' : World) : Prop := ∃ v, e = .returned (.tuple #[v, .int .i64 0]) ∧ RowOf w' w.heap.size v row ∧ Below w.heap.size w w'
/-- what holds between two rounds: dl is left, nn the number in what is left, out what has been laid -/
structure St (w w1 : World) (g : Nat) (row : List Int) (d dl : Array Int) (nn : Nat) (out : List Int) (v : Value) (wr : World) : Prop where
  holds : Holds encI wr g 0 dl
  size : dl.size = d.size
  fine : Fine dl
  cnt : ∃ r, cnt (nats dl) = some r ∧ r < FAR
  own : wr.ownsRow w1.heap.size 3 1 v out.length (ints out)
  below : Below w.heap.size w wr
  far : w1.heap.size ≤ wr.heap.size
  sum : out.length + (nats dl).sum = (nats d).sum
  rest : ∃ rest, (rows (nats dl).sum (nats dl))[nn]? = some rest ∧ row = out ++ rest
/-- within a round: i places have been looked at -/
structure In (w w1 : World) (g : Nat) (row : List Int) (d dl : Array Int) (t i nn : Nat) (out : List Int) (v : Value) (wr : World) : Prop where
  holds : Holds encI wr g 0 dl
  own : wr.ownsRow w1.heap.size 3 1 v out.length (ints out)
  below : Below w.heap.size w wr
  far : w1.heap.size ≤ wr.heap.size
  num : nn ≤ FAR
  rest : ∃ rest, (tail t (nats dl) i (d.size - i))[nn]? = some rest ∧ row = out ++ rest
theorem setCell_holds {w : World} {g i : Nat} {d : Array Int} (h : Holds encI w g 0 d) (hi : i < d.size) (y : Int) : Holds encI (w.setCell ⟨g, i, none⟩ (.int .i64 y)) g 0 (d.setIfInBounds i y) := by
  have h1 := putRow_set encI w g 0 d i y hi
  rw [putRow_self encI w g 0 d h, Nat.zero_add] at h1
  rw [show (.int .i64 y : Value) = encI y from rfl, h1]
  exact holds_putRow encI w g 0 d _ h (by simp)
theorem sum_le {d : Array Int} (hf : Right d) : (nats d).sum ≤ 512 := by
  have h : ∀ (l : List Nat), (∀ x ∈ l, x ≤ 64) → l.sum ≤ 64 * l.length := by
    intro l
    induction l with
    | nil => intro _; simp
    | cons a l ih =>
      intro h
      have h1 := h a (by simp)
      have h2 := ih (fun x hx => h x (by simp [hx]))
      simp only [List.sum_cons, List.length_cons]
      omega
  have h1 := h (nats d) (by
    intro x hx
    obtain ⟨i, hi, e⟩ := List.getElem_of_mem hx
    rw [nats_length] at hi
    obtain ⟨n, hn, hn64⟩ := fine_nat hf.2 hi
    have h2 := nats_get d i
    rw [hn, List.getD, List.getElem?_eq_getElem (by rw [nats_length]; exact hi), e] at h2
    simp at h2
    omega)
  rw [nats_length] at h1
  have := hf.1
  omega
set_option maxHeartbeats 6400000 in
set_option maxRecDepth 1000000 in
theorem Nth_ok (b off cap : Nat) (d : Array Int) (n r : Nat) (row : List Int) (w : World) (hf : Right d) (hb : b < w.heap.size) (h1 : 0 < d.size) (hr : Reads w b off d) (hc : cnt (nats d) = some r) (hrF : r < FAR) (hrow : (rows (nats d).sum (nats d))[n]? = some row) (hnr : n < r) :
    Calls Try.prog 9 #[.slice (some ⟨b, off, none⟩) d.size cap, .int .i64 n] w (NthRes w row) := by
  obtain ⟨t0, hi, hz0, hz1, hz2⟩ := info_parts Nx.Try.info3
  have h8 := hf.1
  have hsum := sum_le hf
  have HS := Lib.hid hsum
  have HH := Lib.hid hr
  have HF := Lib.hid hf
  have HC := Lib.hid hc
  have HRow := Lib.hid hrow
  have HrF := Lib.hid hrF
  have d1 : decide ((n : Int) < 0) = false := by simp
  have d2 : decide ((r : Int) ≤ (n : Int)) = false := by simp; omega
  have d4 : decide ((4611686018427387904 : Int) ≤ (r : Int)) = false := decide_eq_false (fun h => by have := (far_le r).1 h; omega)
  clear hr hf hc hrow hrF hsum
  go_enter Try.func9, Try.ntmps9
  go_wp2_with fail
  refine (Count_ok (some ⟨b, off, none⟩) cap d w (.inr ⟨b, off, rfl, hb, HH.out⟩) HF.out).mono ?_
  rintro e w' ⟨rfl, m, rfl⟩
  rw [HC.out]
  simp only [Option.getD_some]
  go_wp2_with fail
  refine (Try.slices_Clone_int b off d.size cap d.toList (w.drewN m) (by simp) (by omega) (list_read (HH.out.drewN _))).mono ?_
  rintro e w1 ⟨v, rfl, hown, _, hbel⟩
  obtain ⟨g, c, rfl, hcc, hg1, hg2⟩ := own_some hown h1
  have hH : Holds encI w1 g 0 d := by
    have := own_holds (g := g) (cap := c) (zs := d.toList) (w := w1) (by simpa [List.take_of_length_le] using hown)
    simpa using this
  have hg3 : w.heap.size ≤ g := hg1
  have hst : St w w1 g row d d n [] (.slice none 0 0) w1 :=
    { holds := hH, size := rfl, fine := HF.out.2, cnt := ⟨r, HC.out, HrF.out⟩, own := World.ownsRow_nil _ _ _ _, below := below_of_drewN hbel, far := Nat.le_refl _, sum := by simp, rest := ⟨row, HRow.out, by simp⟩ }
  have HST := Lib.hid hst
  clear hown hbel hg1 hH hst hnr d1 d2 d4
  go_wp2_with fail
  go_loopg [1, 9] 513 (fun k s1 s9 wr => ∃ (nn : Nat) (dl : Array Int) (out : List Int), s1 = .int .i64 nn ∧ (nats dl).sum < k ∧ Hid (St w w1 g row d dl nn out s9 wr))
  case atStart => exact ⟨n, d, [], rfl, by have := HS.out; omega, HST⟩
  case round =>
    obtain ⟨nn, dl, out, rfl, hk, HT⟩ := hrel
    have hdl8 : dl.size ≤ 8 := by have := HT.out.size; omega
    have hslice : SliceOf wr (some ⟨g, 0, none⟩) dl := .inr ⟨g, 0, rfl, Nat.lt_of_lt_of_le hg2 HT.out.far, fun j hj => (HT.out.holds j hj).1⟩
    have HSl := Lib.hid hslice
    clear hslice
    go_wp2_with fail
    refine (sum_n (some ⟨g, 0, none⟩) c d.size dl wr HT.out.size hdl8 HT.out.fine HSl.out).mono ?_
    rintro e w' ⟨rfl, rfl⟩
    obtain ⟨t, ht⟩ : ∃ t, (nats dl).sum = t := ⟨_, rfl⟩
    rw [ht]
    have HTT := Lib.hid ht
    rw [ht] at hk
    clear ht
    rcases Nat.eq_zero_or_pos t with hz | hpos
    · have d5 : decide ((0 : Int) < (t : Int)) = false := by simp; omega
      obtain rfl := hz
      have hrow2 : row = out := by
        obtain ⟨rest, hre, he⟩ := HT.out.rest
        rw [HTT.out] at hre
        have hre2 : ([[]] : List (List Int))[nn]? = some rest := hre
        match nn, hre2 with
        | 0, hre2 => cases hre2; simpa using he
        | k + 1, hre2 => simp at hre2
      have HR2 := Lib.hid hrow2
      clear hrow2
      go_wp2
      go_ret2
      exact ⟨_, rfl, by rw [HR2.out]; exact own_base HT.out.own (Nat.le_trans hg3 (Nat.le_of_lt hg2)), HT.out.below⟩
    · obtain ⟨t', rfl⟩ : ∃ t', t = t' + 1 := ⟨t - 1, by omega⟩
      have d5 : decide ((0 : Int) < ((t' + 1 : Nat) : Int)) = true := by simp
      have hin : In w w1 g row d dl t' 0 nn out u9 wr :=
        { holds := HT.out.holds, own := HT.out.own, below := HT.out.below, far := HT.out.far, num := (by
            obtain ⟨rest, hre, he⟩ := HT.out.rest
            obtain ⟨r0, hr0, hr0F⟩ := HT.out.cnt
            have hl := (List.getElem?_eq_some_iff.1 hre).1
            rw [← cnt_rows hr0] at hl
            omega), rest := by
            obtain ⟨rest, hre, he⟩ := HT.out.rest
            refine ⟨rest, ?_, he⟩
            rw [HTT.out] at hre
            rw [Nat.sub_zero, ← HT.out.size, ← nats_length dl, tail_all]
            exact hre }
      have HIn := Lib.hid hin
      clear hin
      obtain ⟨wo, rfl⟩ : ∃ wo : World, wo = wr := ⟨_, rfl⟩
      go_wp2_with fail
      clear d5
      go_loopw [1, 9, 43] (fun s1 s9 s43 wr => ∃ (i nn : Nat), i ≤ d.size ∧ s1 = .int .i64 nn ∧ s43 = .int .i64 i ∧ Hid (In w w1 g row d dl t' i nn out s9 wr)) (fun _ _ s _ => d.size - (intOf s).toNat)
      case atStart => exact ⟨0, nn, Nat.zero_le _, rfl, rfl, HIn⟩
      case round =>
        clear HIn
        obtain ⟨i, nn, hi1, rfl, rfl, HI⟩ := hrel
        by_cases hlt : i < d.size
        · have hi2 : (i : Int) < (d.size : Int) := by omega
          have hi0 : (0 : Int) ≤ (i : Int) := by omega
          have hidl : i < dl.size := by have := HT.out.size; omega
          obtain ⟨q, hq, hq64⟩ := fine_nat HT.out.fine hidl
          have hgq : (nats dl).getD i 0 = q := by rw [nats_get, hq, Int.toNat_natCast]
          have cq : wr.cell? ⟨g, i, none⟩ = some (.int .i64 q) := by have := (HI.out.holds i hidl).1; rw [Nat.zero_add, hq] at this; exact this
          have fq : wr.frozen? ⟨g, i, none⟩ = false := by have := (HI.out.holds i hidl).2; rw [Nat.zero_add] at this; exact this
          have HQ := Lib.hid hq
          have HGQ := Lib.hid hgq
          clear hq hgq
          rcases Nat.eq_zero_or_pos q with hz | hp
          · subst hz
            have hnew : In w w1 g row d dl t' (i + 1) nn out u9 wr := by
              refine { HI.out with rest := ?_ }
              obtain ⟨rest, hre, he⟩ := HI.out.rest
              refine ⟨rest, ?_, he⟩
              rw [show d.size - i = d.size - (i + 1) + 1 from by omega] at hre
              exact tail_skip HGQ.out hre
            have HNew := Lib.hid hnew
            clear hnew
            go_wp2
            go_roundw
            case rel => exact ⟨i + 1, nn, by omega, rfl, by go_num, HNew⟩
            case measure => simp [intOf]; omega
          · obtain ⟨p, rfl⟩ : ∃ p, q = p + 1 := ⟨q - 1, by omega⟩
            obtain ⟨y, hy⟩ : ∃ y : Int, ((p + 1 : Nat) : Int) = y := ⟨_, rfl⟩
            rw [hy] at cq
            have hy1 : 1 ≤ y := by omega
            have hy2 : y ≤ 64 := by omega
            have hy0 : (y == 0) = false := by rw [beq_eq_false_iff_ne]; omega
            have hyp : y - 1 = (p : Int) := by omega
            have HY := Lib.hid hy
            have HYP := Lib.hid hyp
            clear hy hyp hp
            go_wp2_with fail
            obtain ⟨dn, hdn⟩ : ∃ dn, dl.setIfInBounds i (y - 1) = dn := ⟨_, rfl⟩
            have hHn : Holds encI (wr.setCell ⟨g, i, none⟩ (.int .i64 (y - 1))) g 0 dn := by rw [← hdn]; exact setCell_holds HI.out.holds hidl _
            have hsn : dn.size = d.size := by rw [← hdn, Array.size_setIfInBounds]; exact HT.out.size
            have hfn : Fine dn := by rw [← hdn]; exact fine_set hidl HT.out.fine (by unfold Odd; omega)
            have hnn : nats dn = dec (nats dl) i := by rw [← hdn, HYP.out]; exact nats_set hidl HQ.out
            have hgq' : 0 < (nats dl).getD i 0 := by rw [HGQ.out]; omega
            obtain ⟨k', hk', hk'F⟩ : ∃ k', cnt (dec (nats dl) i) = some k' ∧ k' < FAR := by
              obtain ⟨r0, hr0, hr0F⟩ := HT.out.cnt
              obtain ⟨k', h1', h2'⟩ := cnt_dec hgq' hr0
              exact ⟨k', h1', by omega⟩
            have hdt : (dec (nats dl) i).sum = t' := by have := sum_dec (nats dl) i hgq'; have := HTT.out; omega
            have hkl : k' = (rows t' (dec (nats dl) i)).length := by have := cnt_rows hk'; rwa [hdt] at this
            have hsl : SliceOf (wr.setCell ⟨g, i, none⟩ (.int .i64 (y - 1))) (some ⟨g, 0, none⟩) dn := .inr ⟨g, 0, rfl, by rw [World.size_setCell]; exact Nat.lt_of_lt_of_le hg2 HI.out.far, fun j hj => (hHn j hj).1⟩
            have hon : (wr.setCell ⟨g, i, none⟩ (.int .i64 (y - 1))).ownsRow w1.heap.size 3 1 u9 out.length (ints out) := ownsRow_setCell_below HI.out.own (by exact hg2) _
            have hbn : Below w.heap.size w (wr.setCell ⟨g, i, none⟩ (.int .i64 (y - 1))) := HI.out.below.setCell (by exact hg3) _
            have hszn : w1.heap.size ≤ (wr.setCell ⟨g, i, none⟩ (.int .i64 (y - 1))).heap.size := by rw [World.size_setCell]; exact HI.out.far
            have h8n : dn.size ≤ 8 := by omega
            refine (count_n (some ⟨g, 0, none⟩) c d.size dn _ hsn h8n hfn hsl).mono ?_
            rintro e w' ⟨rfl, m2, rfl⟩
            rw [hnn, hk']
            simp only [Option.getD_some]
            obtain ⟨wn, hwn⟩ : ∃ wn, (wr.setCell ⟨g, i, none⟩ (.int .i64 (y - 1))).drewN m2 = wn := ⟨_, rfl⟩
            have hHn' : Holds encI wn g 0 dn := by rw [← hwn]; exact hHn
            have hon' : wn.ownsRow w1.heap.size 3 1 u9 out.length (ints out) := by rw [← hwn]; exact hon
            have hbn' : Below w.heap.size w wn := by rw [← hwn]; exact below_drewN hbn _
            have hszn' : w1.heap.size ≤ wn.heap.size := by rw [← hwn]; exact hszn
            rw [hwn]
            have G1 := Lib.hid hHn'
            have G2 := Lib.hid hon'
            have G3 := Lib.hid hbn'
            have G4 := Lib.hid hszn'
            have G5 := Lib.hid hdn
            have G6 := Lib.hid hsn
            have G7 := Lib.hid hfn
            have G8 := Lib.hid hnn
            have G9 := Lib.hid hdt
            have G10 := Lib.hid hkl
            have G11 := Lib.hid hk'
            have G12 := Lib.hid hk'F
            have G13 := Lib.hid hgq'
            clear hwn hHn' hon' hbn' hszn' hHn hon hbn hszn hsl hdn hsn hfn hnn hdt hkl hk' hk'F hgq' cq fq h8n
            by_cases hlk : nn < k'
            · have hlk2 : (nn : Int) < (k' : Int) := by omega
              have hout : out.length ≤ 512 := by have := HT.out.sum; have := HS.out; omega
              have hsz9 := G4.out
              go_wp2_with (first
                | (at_builtin; refine wpList_append_own _ rfl _ _ 22 rfl w1.heap.size 3 t0 _ 1 8 Try.underlying22 hi hz0 hz1 hz2 rfl (by decide) _ _ _ rfl (G2.out.alloc _) ⟨wn.heap.size, 0, none⟩ 1 1 [.int .i64 i] rfl rfl ?c1 ?c2 ?c3 ?c4 ?c5 ?_))
              case c1 =>
                intro j u hj
                rw [Addr.add_lit, Nat.zero_add, World.cell?_alloc_at _ _ _ _ rfl]
                simpa using hj
              case c2 => intro u hu; cases List.mem_singleton.1 hu; rfl
              case c3 => unfold maxLen; omega
              case c4 => omega
              case c5 => simp; omega
              intro v' w3 hown' hgrow _
              have hst : St w w1 g row d dn nn (out ++ [(i : Int)]) v' w3 := by
                have hgb : Below w1.heap.size wn w3 := ((Below.refl w1.heap.size wn).alloc hsz9 _).grown hgrow (by simp; omega) (fun j hj => (G2.out.lt j hj).1)
                refine { holds := ?_, size := G6.out, fine := G7.out, cnt := ⟨k', by rw [G8.out]; exact G11.out, G12.out⟩, own := ?_, below := G3.out.trans (hgb.mono (Nat.le_trans hg3 (Nat.le_of_lt hg2))), far := Nat.le_trans hsz9 hgb.size, sum := ?_, rest := ?_ }
                · intro j hj
                  have := G1.out j hj
                  rw [hgb.cell (by exact hg2), hgb.frozen (by exact hg2)]
                  exact this
                · rw [ints_append, List.length_append]; exact hown'
                · rw [List.length_append, G8.out, G9.out]
                  have := HT.out.sum
                  have := HTT.out
                  simp; omega
                · obtain ⟨rest, hre, he⟩ := HI.out.rest
                  rw [show d.size - i = d.size - (i + 1) + 1 from by omega] at hre
                  obtain ⟨r', h1', h2'⟩ := tail_here G13.out (by rw [← G10.out]; exact hlk) hre
                  refine ⟨r', ?_, ?_⟩
                  · rw [G8.out, G9.out]; exact h2'
                  · rw [he, h1']; simp
              have HSt := Lib.hid hst
              have hsm : (nats dn).sum = t' := by rw [G8.out]; exact G9.out
              have HSm := Lib.hid hsm
              clear hown' hgrow hst hsm hout
              go_wp2
              go_roundg (t' + 1)
              case rel => exact ⟨nn, dn, out ++ [(i : Int)], rfl, by rw [HSm.out]; omega, HSt⟩
              case measure => omega
            · have hlk2 : ¬ (nn : Int) < (k' : Int) := by omega
              have hsub : (nn : Int) - (k' : Int) = ((nn - k' : Nat) : Int) := by omega
              have hidn : i < dn.size := by have := G6.out; omega
              have cq : wn.cell? ⟨g, i, none⟩ = some (.int .i64 (y - 1)) := by
                have := (G1.out i hidn).1
                rw [Nat.zero_add, ← G5.out, set_get _ hidl] at this
                exact this
              have fq : wn.frozen? ⟨g, i, none⟩ = false := by have := (G1.out i hidn).2; rw [Nat.zero_add] at this; exact this
              have hws : wrap64 ((nn : Int) - (k' : Int)) = ((nn - k' : Nat) : Int) := wrap_small hsub (by have := HI.out.num; omega)
              have hin2 : In w w1 g row d dl t' (i + 1) (nn - k') out u9 (wn.setCell ⟨g, i, none⟩ (.int .i64 y)) := by
                refine { holds := ?_, own := ownsRow_setCell_below G2.out (by exact hg2) _, below := G3.out.setCell (by exact hg3) _, far := by rw [World.size_setCell]; exact G4.out, num := by have := HI.out.num; omega, rest := ?_ }
                · have := setCell_holds G1.out hidn y
                  rw [← G5.out, set_back (by rw [HQ.out]; exact HY.out)] at this
                  exact this
                · obtain ⟨rest, hre, he⟩ := HI.out.rest
                  rw [show d.size - i = d.size - (i + 1) + 1 from by omega] at hre
                  refine ⟨rest, ?_, he⟩
                  rw [G10.out]
                  exact tail_on G13.out (by rw [← G10.out]; omega) hre
              have HIn2 := Lib.hid hin2
              have HWs := Lib.hid hws
              clear hsub hin2 hws
              go_wp2
              go_roundw
              case rel => exact ⟨i + 1, nn - k', by omega, by rw [HWs.out], by go_num, HIn2⟩
              case measure => simp [intOf]; omega
        · exfalso
          obtain rfl : i = d.size := by omega
          obtain ⟨rest, hre, he⟩ := HI.out.rest
          rw [Nat.sub_self] at hre
          exact tail_none hre
end Go.Proofs.Ytiapphhldedckaa.Ex
