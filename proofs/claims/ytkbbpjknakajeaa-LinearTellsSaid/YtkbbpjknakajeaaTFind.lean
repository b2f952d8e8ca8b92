/- The search: it finds the first row, if there is one, and leaves what it stood on. -/
import Derived.Test.YtkbbpjknakajeaaTFs
import Derived.Deep.AppendLies
import Derived.Deep.RegionLaw
namespace Go.Proofs.Ytkbbpjknakajeaa.Li
open Go.RowKit Go.Shelf Go.Sort
theorem upto_found {l : Array QOp} {p : List Int} {s i : Nat} {r : List Int} (hi : i ≤ l.size) (h : upto l p s i = some r) : goal l p (s + 1) = some r := by
  rw [← upto_all]
  unfold upto at *
  have e : List.range' 0 l.size = List.range' 0 i ++ List.range' i (l.size - i) := by
    have := List.range'_append (s := 0) (m := i) (n := l.size - i) (step := 1)
    simpa [Nat.add_sub_cancel' hi] using this.symm
  rw [e, List.flatMap_append]
  exact fnd_append_some h
theorem own_val {w : World} {B n : Nat} {v : Value} {xs : List Value} (h : w.ownsRow B 3 1 v n xs) : ∃ ao cap, v = .slice ao n cap ∧ n ≤ cap ∧ (0 < n → ∃ g, ao = some ⟨g, 0, none⟩) := by
  rcases h.2 with ⟨rfl, rfl⟩ | ⟨g, cap, cur, rfl, _, _, hn, _⟩
  · exact ⟨none, 0, rfl, Nat.le_refl _, fun h => absurd h (by omega)⟩
  · exact ⟨_, cap, rfl, hn, fun _ => ⟨g, rfl⟩⟩
theorem Good.agr {w w' : World} {X : List Nat} {a : Option Addr} {cap : Nat} {q : Array Int} (h : Good w a cap q) (k : Agr w w' X) (hX : ∀ g o, a = some ⟨g, o, none⟩ → g ∉ X) : Good w' a cap q := by
  rcases h with h | ⟨b, off, rfl, hc, hb, hr⟩
  · exact .inl h
  · refine .inr ⟨b, off, rfl, hc, Nat.lt_of_lt_of_le hb k.size, fun j hj => ?_⟩
    rw [World.cell?_of_block (a := ⟨b, off + j, none⟩) (k.block b hb (hX b off rfl))]
    exact hr j hj
theorem agr_app {w3 W w4 : World} {row : Option Nat} (hW : Below w3.heap.size w3 W) (hg : W.grownBy w4 row) : Agr w3 w4 row.toList :=
  ⟨hg.os.trans hW.os, hg.tape.trans hW.tape, hg.output.trans hW.output, Nat.le_trans hW.size hg.size, fun k hk hn => (hg.block k (by have := hW.size; omega) (fun e => hn (by simp [← e]))).trans (hW.block k hk)⟩
/-- what the search answers -/
def Found (B fb ub bl ol cl : Nat) (l : Array QOp) (w : World) (s : Nat) (p : List Int) (v : Value) (e : Ending) (w' : World) : Prop :=
  ∃ v', Kept w w' fb ub v v' ∧ ((∃ t, e = .returned (.bool true) ∧ goal l p s = some t ∧ FS w' B fb ub bl ol cl l v' (p ++ t)) ∨ (e = .returned (.bool false) ∧ goal l p s = none ∧ FS w' B fb ub bl ol cl l v' p))
theorem sep_next {w w2 w3 : World} {B fb ub bl ol cl c0 c' : Nat} {l : Array QOp} {v v' : Value} {p : List Int} {a a' : Option Addr} {q q' : Array Int} (hg : Good w a c0 q) (ha : ∀ g o, a = some ⟨g, o, none⟩ → g ≠ fb ∧ g ≠ ub ∧ v.ownBlock ≠ some g)
    (hK : Kept w w2 fb ub v v') (hF : FS w2 B fb ub bl ol cl l v' p) (hfr : ∀ g o, a' = some ⟨g, o, none⟩ → w2.heap.size ≤ g ∨ blkOf a = some g) (hg' : Good w3 a' c' q') :
    ∀ g o, a' = some ⟨g, o, none⟩ → g ≠ fb ∧ g ≠ ub ∧ v'.ownBlock ≠ some g ∧ g < w3.heap.size := by
  intro g o h
  have hlt : g < w3.heap.size := by
    rcases hg' with ⟨e, _, _⟩ | ⟨b, off, e, _, hb, _⟩
    · rw [e] at h; cases h
    · rw [e] at h; cases h; exact hb
  have hf := hF.fsz
  have hu := hF.usz
  rcases hfr g o h with h1 | h1
  · refine ⟨by omega, by omega, fun e => ?_, hlt⟩
    have := (hF.row.lt g e).2
    omega
  · rcases hg with ⟨rfl, _, _⟩ | ⟨b, off, rfl, _, hb, _⟩
    · cases h1
    · cases h1
      obtain ⟨e1, e2, e3⟩ := ha _ off rfl
      refine ⟨e1, e2, fun e => ?_, hlt⟩
      rcases hK.own _ e with h2 | h2
      · exact e3 h2
      · simp at h2; omega
theorem info3' : (Try.prog.info? 3).map (fun i => (i.zero, i.size, i.bytes)) = some (some (.int .i64 0), 1, 8) := by kernel_rfl
set_option maxHeartbeats 6400000 in
set_option maxRecDepth 1000000 in
theorem find_any {B fb ub bl ol cl : Nat} {l : Array QOp} (hn : l.size ≤ 10) : ∀ (s : Nat) (w : World) (v : Value) (p : List Int) (q : Array Int) (a : Option Addr) (cap : Nat), FS w B fb ub bl ol cl l v p → Pre l p q → p.length + s = l.size → (cOf l.size p).sum = s → Good w a cap q →
    (∀ g o, a = some ⟨g, o, none⟩ → g ≠ fb ∧ g ≠ ub ∧ v.ownBlock ≠ some g) → B ≤ w.heap.size →
    Calls Try.prog 31 #[.pointer (some ⟨fb, 0, none⟩), .slice a q.size cap] w (Found B fb ub bl ol cl l w s p v) := by
  obtain ⟨t0, hi0, hz0, hz1, hz2⟩ := info_parts info3'
  intro s
  induction s with
  | zero =>
    intro w v p q a cap h hP hl hc hg ha hB
    have c0 := h.c0
    have c2 := h.c2
    obtain ⟨ao, vc, rfl, _, _⟩ := own_val h.row
    have hl' : p.length = l.size := by omega
    rw [hl'] at c2
    have H := Lib.hid (And.intro h (And.intro hP hl'))
    clear h hP hl hc hg ha hB hl'
    go_enter Try.func31, Try.ntmps31
    go_wp2_with fail
    go_quiet (fail)
    go_wp2
    go_ret
    exact ⟨_, .of_below (below_drewN (Below.refl _ _) _), .inl ⟨[], rfl, goal_full H.out.2.1, by rw [List.append_nil]; exact H.out.1.grow (below_drewN (Below.refl _ _) _)⟩⟩
  | succ s ih =>
    intro w v p q a cap h hP hl hc hg ha hB
    have c0 := h.c0
    have c2 := h.c2
    obtain ⟨ao, vc, hv, _, _⟩ := own_val h.row
    rw [hv] at c2
    have hne : ¬ (p.length : Int) = (l.size : Int) := by omega
    have hne2 : ((p.length : Int) == (l.size : Int)) = false := beq_eq_false_iff_ne.2 hne
    have H := Lib.hid (And.intro h (And.intro hP (And.intro hl (And.intro hc (And.intro hg (And.intro ha hB))))))
    have IH := Lib.hid ih
    clear h hP hl hc hg ha hB ih
    go_enter Try.func31, Try.ntmps31
    go_wp2_with fail
    go_quiet (fail)
    go_wp2
    go_loopw [25] (fun t wr => ∃ (i : Nat) (v' : Value), i ≤ l.size ∧ t = .int .i64 i ∧ Hid (FS wr B fb ub bl ol cl l v' p) ∧ Hid (Kept w wr fb ub v v') ∧ Hid (upto l p s i = none)) (fun t _ => l.size - (intOf t).toNat)
    case atStart => exact ⟨0, v, Nat.zero_le _, rfl, Lib.hid (H.out.1.grow (below_drewN (Below.refl _ _) _)), Lib.hid (.of_below (below_drewN (Below.refl _ _) _)), Lib.hid (upto_zero l p s)⟩
    case round =>
      obtain ⟨i, v', hi, rfl, hF, hK, hU⟩ := hrel
      clear c0 c2 hv hne hne2
      by_cases hlt : i < l.size
      · have h1 : (i : Int) < (l.size : Int) := by omega
        have h2 : (0 : Int) ≤ (i : Int) := by omega
        obtain ⟨k0, k1, k2, k3⟩ := hF.out.q i hlt
        obtain ⟨⟨pp, vv, ff, tt⟩, hx⟩ : ∃ x, l[i]! = x := ⟨_, rfl⟩
        rw [hx] at k0 k1 k2 k3
        dsimp only at k0 k1 k2 k3
        have hG := hF.out.grow ((Below.refl wr.heap.size wr).alloc (Nat.le_refl _) (.cells #[.bool pp, .int .i64 vv, .int .i64 ff, .int .i64 tt] 58))
        have hBW := (Below.refl wr.heap.size wr).alloc (Nat.le_refl _) (.cells #[.bool pp, .int .i64 vv, .int .i64 ff, .int .i64 tt] 58)
        have a0 : (wr.alloc (.cells #[.bool pp, .int .i64 vv, .int .i64 ff, .int .i64 tt] 58)).cell? ⟨wr.heap.size, 0, none⟩ = some (.bool pp) := by simp
        have a1 : (wr.alloc (.cells #[.bool pp, .int .i64 vv, .int .i64 ff, .int .i64 tt] 58)).cell? ⟨wr.heap.size, 1, none⟩ = some (.int .i64 vv) := by simp
        have a2 : (wr.alloc (.cells #[.bool pp, .int .i64 vv, .int .i64 ff, .int .i64 tt] 58)).cell? ⟨wr.heap.size, 2, none⟩ = some (.int .i64 ff) := by simp
        have a3 : (wr.alloc (.cells #[.bool pp, .int .i64 vv, .int .i64 ff, .int .i64 tt] 58)).cell? ⟨wr.heap.size, 3, none⟩ = some (.int .i64 tt) := by simp
        have hAl : wr.heap.size < (wr.alloc (.cells #[.bool pp, .int .i64 vv, .int .i64 ff, .int .i64 tt] 58)).heap.size := by simp
        obtain ⟨W1, hW1⟩ : ∃ W1, wr.alloc (.cells #[.bool pp, .int .i64 vv, .int .i64 ff, .int .i64 tt] 58) = W1 := ⟨_, rfl⟩
        rw [hW1] at hG hBW a0 a1 a2 a3 hAl
        obtain ⟨A, hA⟩ : ∃ A, wr.heap.size = A := ⟨_, rfl⟩
        rw [hA] at a0 a1 a2 a3 hAl
        have c47 := may_any hG i hlt (by omega)
        have HG := Lib.hid (And.intro hG hBW)
        have HA := Lib.hid (And.intro a0 (And.intro a1 (And.intro a2 (And.intro a3 hAl))))
        have HX := Lib.hid hx
        clear hG hBW a0 a1 a2 a3 hAl hx
        go_wp2_with (go_at_call 47; refine c47.mono ?_; clear c47; rintro e w2 ⟨r, rfl, hr, hB2⟩; have b0 := (hB2.cell (p := ⟨A, 0, none⟩) HA.out.2.2.2.2).trans HA.out.1; have b1 := (hB2.cell (p := ⟨A, 1, none⟩) HA.out.2.2.2.2).trans HA.out.2.1; have b2 := (hB2.cell (p := ⟨A, 2, none⟩) HA.out.2.2.2.2).trans HA.out.2.2.1; have b3 := (hB2.cell (p := ⟨A, 3, none⟩) HA.out.2.2.2.2).trans HA.out.2.2.2.1; have HR := Lib.hid (And.intro hr hB2); clear hr hB2; cases r)
        · go_roundw
          case rel =>
            refine ⟨i + 1, v', by omega, by go_num, Lib.hid (HG.out.1.grow HR.out.2), Lib.hid ((hK.out.trans (.of_below HG.out.2)).trans (.of_below HR.out.2)), Lib.hid ?_⟩
            rw [upto_succ hU.out]
            exact cut hlt H.out.2.2.2.1 (fun hm => by have := HR.out.1.2 hm; cases this)
          case measure => simp [intOf]; omega
        · have hMay : May l p i := by have := HR.out.1; simpa using this
          have hG2 := HG.out.1.grow HR.out.2
          have hK2 : Kept w w2 fb ub v v' := (hK.out.trans (.of_below HG.out.2)).trans (.of_below HR.out.2)
          have hq : q.size ≤ 1000 := by have := run_size H.out.2.1.ran; have := H.out.2.2.1; omega
          have hgood2 : Good w2 a cap q := Good.agr H.out.2.2.2.2.1 hK2.agr (fun g o hgo => by
            obtain ⟨e1, e2, e3⟩ := H.out.2.2.2.2.2.1 g o hgo
            simp only [List.mem_cons, Option.mem_toList, not_or]
            exact ⟨e1, e2, e3⟩)
          refine (step_any2 a cap q ⟨pp, vv, ff, tt⟩ hq w2 hgood2).mono ?_
          rintro e w3 hs
          have HM := Lib.hid (And.intro hMay (And.intro hG2 hK2))
          clear hMay hG2 hK2 hgood2
          cases hst : stepA q ⟨pp, vv, ff, tt⟩ with
          | none =>
            rw [hst] at hs
            obtain ⟨v3, rfl, hB3⟩ := hs
            have HB3 := Lib.hid (And.intro hB3 hst)
            clear hB3 hst b0 b1 b2 b3
            go_wp2
            go_roundw
            case rel =>
              refine ⟨i + 1, v', by omega, by go_num, Lib.hid (HM.out.2.1.grow HB3.out.1), Lib.hid (HM.out.2.2.trans (.of_below HB3.out.1)), Lib.hid ?_⟩
              rw [upto_succ hU.out]
              exact cut_step H.out.2.1 hlt (by rw [HX.out]; exact HB3.out.2)
            case measure => simp [intOf]; omega
          | some q' =>
            rw [hst] at hs
            obtain ⟨a', c', rfl, hg', hB3, hfr⟩ := hs
            have hF3 := HM.out.2.1.grow hB3
            obtain ⟨ao', vc', hv', hvn, _⟩ := own_val hF3.row
            subst hv'
            have g1 := hF3.c1
            have g2 := hF3.c2
            have gsz := hF3.fsz
            have gne : ¬ fb = w3.heap.size := by omega
            have HF3 := Lib.hid hF3
            have HS := Lib.hid (And.intro hst (And.intro hg' (And.intro hB3 hfr)))
            have HI := Lib.hid (And.intro hi0 (And.intro hz0 (And.intro hz1 hz2)))
            have HN : Hid (p.length + 1 ≤ maxLen ∧ (p.length + 1) * 8 ≤ 140737488355328 ∧ B ≤ w3.heap.size ∧ (∀ u ∈ [Value.int .i64 (i : Int)], u.oneCell' = true)) := Lib.hid (by
              have h1 := H.out.2.2.1
              have h2 := H.out.2.2.2.2.2.2
              have h3 := HM.out.2.2.agr.size
              have h4 := hB3.size
              exact ⟨Nat.le_trans (by omega : p.length + 1 ≤ 100) (by decide), by omega, by omega, by simp [Value.oneCell']⟩)
            have HC := Lib.hid (cell_one_new w3 (.int .i64 (i : Int)) 3)
            clear hF3 hst hg' hB3 hfr hi0 hz0 hz1 hz2 b0 b1 b2 b3
            go_wp2_with fail
            go_region_law
              ((refine step_append_lies _ rfl (.tmp 51) (.tmp 53) 24 rfl B 3 t0 (.int .i64 0) 1 8 Try.underlying24 HI.out.1 HI.out.2.1 HI.out.2.2.1 HI.out.2.2.2 rfl (by decide) (.slice ao' p.length vc') p.length (p.map (Value.int .i64)) (by rfl) (by first | exact (HF3.out.row.alloc _).drew | exact HF3.out.row.drew) ⟨w3.heap.size, 0, none⟩ 1 1 [.int .i64 i] (by rfl) rfl (by exact HC.out) HN.out.2.2.2 Nat.zero_lt_one HN.out.1 HN.out.2.1 (by first | (simp; have := HN.out.2.2.1; omega)) _ rfl ?_; intro g2' c2 w4 hown2 hgrow2 hat2 hgl2; have hag := agr_app (w3 := w3) (((Below.refl w3.heap.size w3).alloc (Nat.le_refl _) _).drew) hgrow2; have hfb := hag.block fb HF3.out.fsz (fun hx => (HF3.out.ov fb (by simpa using hx)).1 rfl); have hub := hag.block ub HF3.out.usz (fun hx => (HF3.out.ov ub (by simpa using hx)).2 rfl); have s4 : w4.cell? ⟨fb, 1, none⟩ = some (.slice (some ⟨ub, 0, none⟩) l.size l.size) := (World.cell?_of_block (a := ⟨fb, 1, none⟩) hfb).trans HF3.out.c1; have hneU : ub ≠ fb := HF3.out.fu_ne.symm; have u4 := (World.cell?_of_block (a := ⟨ub, i, none⟩) hub).trans (HF3.out.u i hlt); have u4f := (World.frozen?_of_block (a := ⟨ub, i, none⟩) hub).trans (HF3.out.fu i); have f4 := fun u => (World.cell?_setCell_far w4 ⟨ub, i, none⟩ ⟨fb, 2, none⟩ u hneU).trans ((World.cell?_of_block (a := ⟨fb, 2, none⟩) hfb).trans HF3.out.c2); have f4f : w4.frozen? ⟨fb, 2, none⟩ = false := (World.frozen?_of_block (a := ⟨fb, 2, none⟩) hfb).trans HF3.out.f2; have HAG := Lib.hid (And.intro hag (And.intro hown2 hat2)); clear hfb hub hag hown2 hgrow2 hat2))
            all_goals
              have hv2 : ∀ g, (Value.slice (some ⟨g2', 0, none⟩) (p.length + 1) c2).ownBlock = some g → (Value.slice ao' p.length vc').ownBlock = some g ∨ w3.heap.size ≤ g := fun g hg => by
                cases hg
                rcases HAG.out.2.2 with h | h
                · exact .inl h
                · exact .inr (by rw [h]; simp)
              have hmk := HF3.out.mark hlt HN.out.2.2.1 HAG.out.1 HAG.out.2.1 hv2
              have hsep : ∀ g o, a' = some ⟨g, o, none⟩ → g ≠ fb ∧ g ≠ ub ∧ (Value.slice ao' p.length vc').ownBlock ≠ some g ∧ g < w3.heap.size := sep_next H.out.2.2.2.2.1 H.out.2.2.2.2.2.1 HM.out.2.2 HM.out.2.1 HS.out.2.2.2 HS.out.2.1
              have hgood5 := Good.agr HS.out.2.1 hmk.2.agr (fun g o ha' => by
                obtain ⟨e1, e2, e3, _⟩ := hsep g o ha'
                simp only [List.mem_cons, Option.mem_toList, not_or]
                exact ⟨e1, e2, e3⟩)
              obtain ⟨W5, hW5⟩ : ∃ W5, (w4.setCell ⟨ub, i, none⟩ (.bool true)).setCell ⟨fb, 2, none⟩ (.slice (some ⟨g2', 0, none⟩) (p.length + 1) c2) = W5 := ⟨_, rfl⟩
              rw [hW5] at hmk hgood5
              have c31 := IH.out W5 _ (p ++ [(i : Int)]) q' a' c' hmk.1 (H.out.2.1.snoc hlt HM.out.1 (by rw [HX.out]; exact HS.out.1)) (by have := H.out.2.2.1; simp; omega) (cOf_sum_snoc hlt HM.out.1.1 H.out.2.2.2.1) hgood5 (fun g o ha' => by
                obtain ⟨e1, e2, e3, e4⟩ := hsep g o ha'
                refine ⟨e1, e2, fun e => ?_⟩
                cases e
                rcases HAG.out.2.2 with h | h
                · exact e3 h
                · rw [h] at e4; simp at e4; omega) (by have := HN.out.2.2.1; have := hmk.2.agr.size; omega)
              have HMK := Lib.hid hmk
              simp only [hW5]
              clear hmk hgood5 hsep hv2 s4 hneU u4 u4f f4 f4f g1 g2 gne
              go_wp2_with (go_at_call 31; refine c31.mono ?_; clear c31; rintro e w6 ⟨v6, hK6, hres⟩; have HK6 := Lib.hid hK6; clear hK6; rcases hres with ⟨t, rfl, hgo, hF6⟩ | ⟨rfl, hgo, hF6⟩)
              · go_ret
                refine ⟨v6, (HM.out.2.2.trans (.of_below HS.out.2.2.1)).trans (HMK.out.2.trans HK6.out), .inl ⟨(i : Int) :: t, rfl, ?_, by simpa using hF6⟩⟩
                refine upto_found (i := i + 1) (by omega) ?_
                rw [upto_succ hU.out, fnd_part hlt HM.out.1.1, hgo]
                rfl
              · obtain ⟨ao6, c6, hv6, hn6, ha6⟩ := own_val hF6.row
                have hlen : (p ++ [(i : Int)]).length = p.length + 1 := by simp
                rw [hlen] at hv6 hn6 ha6
                obtain ⟨g6, rfl⟩ := ha6 (by omega)
                subst hv6
                have s6 := hF6.c1
                have f6 := hF6.c2
                have f6f := hF6.f2
                have u6 := hF6.u i hlt
                have u6f := hF6.fu i
                have hneU : ub ≠ fb := hF6.fu_ne.symm
                have f6u := fun u => (World.cell?_setCell_far w6 ⟨ub, i, none⟩ ⟨fb, 2, none⟩ u hneU).trans f6
                have HUN := Lib.hid (And.intro (hF6.unmark hlt HM.out.1.1) hgo)
                have hpc : p.length ≤ c6 := by omega
                have hpb : p.length ≤ 10 := by have := H.out.2.2.1; omega
                have hpi : (p.length : Int) ≤ (c6 : Int) := by omega
                have hpz : (0 : Int) ≤ (p.length : Int) := by omega
                have hwr : IntKind.i64.wrap (p.length : Int) = (p.length : Int) := by rw [IntKind.wrap_i64]; omega
                have hc0 : ¬ c6 = 0 := by omega
                clear hF6 hlen hgo
                go_wp2_with fail
                go_region
                go_wp2
                go_roundw
                case rel =>
                  refine ⟨i + 1, _, by omega, by go_num, Lib.hid (HUN.out.1.1.grow (Below.refl _ _).drew), Lib.hid ((HM.out.2.2.trans (.of_below HS.out.2.2.1)).trans (HMK.out.2.trans (HK6.out.trans (HUN.out.1.2.trans (.of_below (Below.refl _ _).drew))))), Lib.hid ?_⟩
                  rw [upto_succ hU.out, fnd_part hlt HM.out.1.1, HUN.out.2]
                  rfl
                case measure => simp [intOf]; omega
      · obtain rfl : i = l.size := by omega
        go_wp2
        go_ret
        exact ⟨v', hK.out, .inr ⟨rfl, by rw [← upto_all]; exact hU.out, hF.out⟩⟩
end Go.Proofs.Ytkbbpjknakajeaa.Li
