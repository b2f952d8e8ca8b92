/- The document's plays. -/
import Derived.Test.YtkbbpjknakajeaaDoes
import Derived.Deep.AppendLies
namespace Go.Proofs.Ytkbbpjknakajeaa.Li
open Go.RowKit Go.Shelf Go.Sort

theorem sd_alloc {w W : World} {B : Nat} {v : Value} (o : Obj) (hB : B < w.heap.size) (h : Below w.heap.size w W ∧ W.cell? ⟨B, 1, none⟩ = some v) : Below w.heap.size w (W.alloc o) ∧ (W.alloc o).cell? ⟨B, 1, none⟩ = some v :=
  ⟨h.1.alloc h.1.size o, (((Below.refl W.heap.size W).alloc (Nat.le_refl _) o).cell (p := ⟨B, 1, none⟩) (Nat.lt_of_lt_of_le hB h.1.size)).trans h.2⟩
theorem sd_drew {w W : World} {B : Nat} {v : Value} (h : Below w.heap.size w W ∧ W.cell? ⟨B, 1, none⟩ = some v) : Below w.heap.size w W.drew ∧ W.drew.cell? ⟨B, 1, none⟩ = some v := ⟨h.1.drew, h.2⟩
theorem sd_grown {w W W' : World} {B : Nat} {v : Value} {row : Option Nat} (hB : B < w.heap.size) (h : Below w.heap.size w W ∧ W.cell? ⟨B, 1, none⟩ = some v) (hg : W.grownBy W' row) (hr : ∀ j, row = some j → w.heap.size ≤ j) :
    Below w.heap.size w W' ∧ W'.cell? ⟨B, 1, none⟩ = some v := by
  have hb : Below w.heap.size W W' := (Below.refl _ W).grown hg h.1.size hr
  exact ⟨h.1.trans hb, (hb.cell (p := ⟨B, 1, none⟩) hB).trans h.2⟩
theorem sd_below {w W : World} {B : Nat} {v : Value} (h : Below w.heap.size w W ∧ W.cell? ⟨B, 1, none⟩ = some v) : Below w.heap.size w W := h.1
theorem ints_one (q : List Int) : ∀ u ∈ q.map (Value.int .i64), u.oneCell' = true := by
  intro u hu
  obtain ⟨x, _, rfl⟩ := List.mem_map.1 hu
  rfl
theorem sd_cell {w W : World} {B : Nat} {v : Value} (h : Below w.heap.size w W ∧ W.cell? ⟨B, 1, none⟩ = some v) : W.cell? ⟨B, 1, none⟩ = some v := h.2

theorem app_facts {W0 W w1 : World} {v1 : Value} {n : Nat} {xs : List Value} (hW : Below W0.heap.size W0 W) (hg : W.grownBy w1 none) (ho : w1.ownsRow W.heap.size 3 1 v1 n xs) :
    Below W0.heap.size W0 w1 ∧ w1.ownsRow W0.heap.size 3 1 v1 n xs ∧ ∀ p : Addr, p.block < W.heap.size → w1.cell? p = W.cell? p := by
  have hb : Below W.heap.size W w1 := (Below.refl _ W).grown hg (Nat.le_refl _) (fun j hj => by cases hj)
  exact ⟨hW.grown hg hW.size (fun j hj => by cases hj), own_base ho hW.size, fun p hp => hb.cell hp⟩
theorem news_kept {W w1 : World} {B : Nat} {v : Value} (hC : ∀ p : Addr, p.block < W.heap.size → w1.cell? p = W.cell? p) (hB : B < W.heap.size) (h : ∀ (j : Nat) u, [v][j]? = some u → W.cell? ((Addr.mk B 0 none).add j) = some u) :
    ∀ (j : Nat) u, [v][j]? = some u → w1.cell? ((Addr.mk B 0 none).add j) = some u := fun j u hu => by
  rw [hC _ (by rw [Addr.add_lit]; exact hB)]
  exact h j u hu
theorem own_good {w2 : World} {B g c : Nat} {q : Array Int} {v : Int} (ho : w2.ownsRow B 3 1 (.slice (some ⟨g, 0, none⟩) (q.size + 1) c) (q.size + 1) (q.toList.map (Value.int .i64) ++ [.int .i64 v])) (hg : g < w2.heap.size) : Good w2 (some ⟨g, 0, none⟩) c (q.push v) := by
  obtain ⟨g', c', e, hc, _, _⟩ := own_some ho (by omega)
  cases e
  have hH := own_holds (n := q.size + 1) (zs := q.toList ++ [v]) (by simpa using ho) (by simp)
  have := holds_reads hH
  rw [show (q.toList ++ [v]).toArray = q.push v from Array.ext' (by simp)] at this
  exact .inr ⟨g, 0, rfl, by simpa using hc, hg, this⟩
theorem news_two (W0 : World) (v : Value) : ∀ (j : Nat) u, [v][j]? = some u → ((W0.alloc (.cells #[] 3)).alloc (.cells #[v] 3)).cell? ((Addr.mk (W0.heap.size + 1) 0 none).add j) = some u := by
  have := cell_one_new (W0.alloc (.cells #[] 3)) v 3
  rwa [World.size_alloc] at this
theorem news_three (W0 : World) (v : Value) : ∀ (j : Nat) u, [v][j]? = some u → ((W0.alloc (.cells #[v] 3)).alloc (.cells #[] 3)).cell? ((Addr.mk W0.heap.size 0 none).add j) = some u := by
  intro j u hu
  have h := cell_one_new W0 v 3 j u hu
  rw [Addr.add_lit] at h ⊢
  rw [← h]
  exact ((Below.refl _ (W0.alloc (.cells #[v] 3))).alloc (Nat.le_refl _) _).cell (by simp)

theorem not_plays {l : Array QOp} {d : Array Int} {k : Nat} {q : Array Int} {x : QOp} (hk : k < d.size) (hr : run l d k = some q) (hat : at_ l d k = x) (hst : stepA q x = none) : ¬ Plays l d := by
  have hnn : run l d (k + 1) = none := by rw [run, hr, Option.bind_some, hat, hst]
  have := run_none hnn (d.size - (k + 1))
  rw [show k + 1 + (d.size - (k + 1)) = d.size from by omega] at this
  exact fun h => h this
set_option maxHeartbeats 2000000 in
set_option maxRecDepth 1000000 in
theorem plays_some (bl ol cl b off cap : Nat) (l : Array QOp) (d : Array Int) (hs : d.size ≤ 1000) (_hn : l.size ≤ 1000) (w : World) (hb : b < w.heap.size) (hbl : bl < w.heap.size)
    (hq : ReadsQ w bl ol l) (hr : Reads w b off d) (hin : Within l.size d) :
    Calls Try.prog 33 #[.slice (some ⟨bl, ol, none⟩) l.size cl, .slice (some ⟨b, off, none⟩) d.size cap] w (Says (Plays l d) w) := by
  have HR := Lib.hid hr
  have HQ := Lib.hid hq
  have HI := Lib.hid hin
  clear hr hq hin
  obtain ⟨t0, hi, hz0, hz1, hz2⟩ := info_parts info3
  go_enter Try.func33, Try.ntmps33
  go_wp2
  go_loopw [5, 11] (fun s t wr => ∃ (k : Nat) (a : Option Addr) (qc : Nat) (q : Array Int), k ≤ d.size ∧ t = .int .i64 k ∧ s = .slice a q.size qc ∧ Hid (run l d k = some q) ∧ Hid (Good wr a qc q) ∧ Hid (Below w.heap.size w wr)) (fun _ t _ => d.size - (intOf t).toNat)
  case atStart => exact ⟨0, none, 0, #[], Nat.zero_le _, rfl, rfl, Lib.hid rfl, Lib.hid (.inl ⟨rfl, rfl, rfl⟩), Lib.hid (Below.refl _ _)⟩
  case round =>
    obtain ⟨k, a, qc, q, hk, rfl, rfl, hrun, hgood, hbel⟩ := hrel
    by_cases hlt : k < d.size
    · have ck := (HR.out.below hb hbel.out) k hlt
      have h1 : (k : Int) < (d.size : Int) := by omega
      have h2 : (0 : Int) ≤ (k : Int) := by omega
      obtain ⟨hx0, hx1⟩ := HI.out k hlt
      obtain ⟨m, hm⟩ : ∃ m : Nat, d[k]! = (m : Int) := ⟨(d[k]!).toNat, by omega⟩
      rw [hm] at ck hx0 hx1
      have hml : m < l.size := by omega
      have hat : at_ l d k = l[m]! := by rw [at_, hm]; rfl
      obtain ⟨cp, cv, cf, ct⟩ := (HQ.out.below hbl hbel.out) m hml
      obtain ⟨⟨p, v, f, t⟩, hx⟩ : ∃ x, l[m]! = x := ⟨_, rfl⟩
      rw [hx] at cp cv cf ct hat
      dsimp only at cp cv cf ct
      have hqs : q.size ≤ 1000 := by have := run_size hrun.out; omega
      have HX := Lib.hid hat
      clear hat hm hx
      cases p with
      | true =>
        go_wp2_with fail
        have hg0 := hgood.out.below ((Below.refl wr.heap.size wr).alloc (Nat.le_refl _) (.cells #[.bool true, .int .i64 v, .int .i64 f, .int .i64 t] 58))
        have hs0 := sc_new wr true v f t
        obtain ⟨W0, hW0⟩ : ∃ W0, wr.alloc (.cells #[.bool true, .int .i64 v, .int .i64 f, .int .i64 t] 58) = W0 := ⟨_, rfl⟩
        rw [hW0] at hg0 hs0
        rw [hW0]
        clear hW0
        obtain ⟨hs1, hs2, hs3⟩ := hs0
        by_cases hz : q.size = 0
        · obtain rfl : q = #[] := Array.eq_empty_of_size_eq_zero hz
          have hm2 : 0 + 1 ≤ maxLen := by decide
          have hS : Below W0.heap.size W0 W0 ∧ W0.cell? ⟨wr.heap.size, 1, none⟩ = some (.int .i64 v) := ⟨Below.refl _ _, hs3⟩
          have hOne2 : ∀ u ∈ [Value.int .i64 v], u.oneCell' = true := by simp [Value.oneCell']
          have HN2 := Lib.hid (news_two W0 (.int .i64 v))
          have HN3 := Lib.hid (news_three W0 (.int .i64 v))
          rcases hg0 with ⟨rfl, _, rfl⟩ | ⟨qb, qo, rfl, _, _, _⟩
          · simp only [Array.size_empty] at hqs ⊢
            go_region_held3 (fun W => Below W0.heap.size W0 W ∧ W.cell? ⟨wr.heap.size, 1, none⟩ = some (.int .i64 v))
              (first | exact hS | (go_split_ands; first | exact sd_drew ⟨by assumption, by assumption⟩ | exact sd_alloc _ hs2 ⟨by assumption, by assumption⟩ | (refine sd_grown hs2 ?_ hgrow2 (fun j hj => by cases hj); repeat (first | exact hS | exact ⟨by assumption, by assumption⟩ | refine sd_drew ?_ | refine sd_alloc _ hs2 ?_)) | exact sd_drew (sd_alloc _ hs2 ⟨Below.refl _ _, hs3⟩) | exact sd_drew (sd_alloc _ hs2 (sd_alloc _ hs2 ⟨Below.refl _ _, hs3⟩))))
              ((refine step_append_grows rfl (.tmp 23) (.tmp 26) 24 rfl 3 t0 (.int .i64 0) 1 8 Try.underlying24 hi hz0 hz1 hz2 rfl (by decide) (some ⟨_, 0, none⟩) 0 0 [] (by rfl) (fun h => by cases h) rfl (fun b h j u hu => by cases hu) ⟨_, 0, none⟩ 1 1 [.int .i64 v] (by rfl) rfl (by first | exact HN2.out | exact HN3.out) hOne2 (by omega) hm2 (by omega) ?_; intro v2 w2 hown2 hgrow2))
            all_goals rename_i hHeld
            all_goals obtain ⟨g2, c2, rfl, hcc, hgb, hgl2⟩ := own_some hown2 (by omega)
            all_goals have HG2 := Lib.hid (own_good (q := #[]) hown2 hgl2)
            all_goals have HB2 := Lib.hid (hbel.out.trans ((hs1.mono hbel.out.size).trans (hHeld.1.mono (Nat.le_trans hbel.out.size hs1.size))))
            all_goals clear hHeld hown2 hgrow2 hgl2 hgb hcc
            all_goals go_wp2
            all_goals go_roundw
            all_goals first
              | exact ⟨k + 1, _, c2, #[v], by omega, by go_num, by simp, Lib.hid (by rw [run, hrun.out, Option.bind_some, HX.out]; rfl), HG2, HB2⟩
              | (simp [intOf]; omega)
          · simp only [Array.size_empty] at hqs ⊢
            go_region_held3 (fun W => Below W0.heap.size W0 W ∧ W.cell? ⟨wr.heap.size, 1, none⟩ = some (.int .i64 v))
              (first | exact hS | (go_split_ands; first | exact sd_drew ⟨by assumption, by assumption⟩ | exact sd_alloc _ hs2 ⟨by assumption, by assumption⟩ | (refine sd_grown hs2 ?_ hgrow2 (fun j hj => by cases hj); repeat (first | exact hS | exact ⟨by assumption, by assumption⟩ | refine sd_drew ?_ | refine sd_alloc _ hs2 ?_)) | exact sd_drew (sd_alloc _ hs2 ⟨Below.refl _ _, hs3⟩) | exact sd_drew (sd_alloc _ hs2 (sd_alloc _ hs2 ⟨Below.refl _ _, hs3⟩))))
              ((refine step_append_grows rfl (.tmp 23) (.tmp 26) 24 rfl 3 t0 (.int .i64 0) 1 8 Try.underlying24 hi hz0 hz1 hz2 rfl (by decide) (some ⟨_, 0, none⟩) 0 0 [] (by rfl) (fun h => by cases h) rfl (fun b h j u hu => by cases hu) ⟨_, 0, none⟩ 1 1 [.int .i64 v] (by rfl) rfl (by first | exact HN2.out | exact HN3.out) hOne2 (by omega) hm2 (by omega) ?_; intro v2 w2 hown2 hgrow2))
            all_goals rename_i hHeld
            all_goals obtain ⟨g2, c2, rfl, hcc, hgb, hgl2⟩ := own_some hown2 (by omega)
            all_goals have HG2 := Lib.hid (own_good (q := #[]) hown2 hgl2)
            all_goals have HB2 := Lib.hid (hbel.out.trans ((hs1.mono hbel.out.size).trans (hHeld.1.mono (Nat.le_trans hbel.out.size hs1.size))))
            all_goals clear hHeld hown2 hgrow2 hgl2 hgb hcc
            all_goals go_wp2
            all_goals go_roundw
            all_goals first
              | exact ⟨k + 1, _, c2, #[v], by omega, by go_num, by simp, Lib.hid (by rw [run, hrun.out, Option.bind_some, HX.out]; rfl), HG2, HB2⟩
              | (simp [intOf]; omega)
        · rcases hg0 with ⟨rfl, rfl, rfl⟩ | ⟨qb, qo, rfl, hqc, hqb, hqr⟩
          · exact absurd rfl hz
          · have hm1 : 0 + q.size ≤ maxLen := Nat.le_trans (by omega : 0 + q.size ≤ 1001) (by decide)
            have hm2 : q.size + 1 ≤ maxLen := Nat.le_trans (by omega : q.size + 1 ≤ 1001) (by decide)
            have hS : Below W0.heap.size W0 W0 ∧ W0.cell? ⟨wr.heap.size, 1, none⟩ = some (.int .i64 v) := ⟨Below.refl _ _, hs3⟩
            have hOne2 : ∀ u ∈ [Value.int .i64 v], u.oneCell' = true := by simp [Value.oneCell']
            have hf1 : 0 < 0 + q.size := by omega
            have hf2 : (0 + q.size) * 8 ≤ 140737488355328 := by omega
            have hf3 : (q.size + 1) * 8 ≤ 140737488355328 := by omega
            have HN2 := Lib.hid (news_two W0 (.int .i64 v))
            have HN3 := Lib.hid (news_three W0 (.int .i64 v))
            go_region_held3 (fun W => Below W0.heap.size W0 W ∧ W.cell? ⟨wr.heap.size, 1, none⟩ = some (.int .i64 v))
              (first | exact hS | exact hS1 | exact sd_alloc _ hs2 hS1 | exact sd_grown hs2 hS1 hgrow2 (fun j hj => (hO1.lt j hj).1) | exact sd_grown hs2 (sd_alloc _ hs2 hS1) hgrow2 (fun j hj => (hO1.lt j hj).1) | (go_split_ands; first | exact sd_drew ⟨by assumption, by assumption⟩ | exact sd_alloc _ hs2 ⟨by assumption, by assumption⟩))
              (first | ((fail_if_success (revert hO1)); refine step_append_grows rfl (.tmp 21) (.tmp 22) 24 rfl 3 t0 (.int .i64 0) 1 8 Try.underlying24 hi hz0 hz1 hz2 rfl (by decide) _ 0 0 [] rfl (fun h => by cases h) rfl (fun b h j u hu => by cases hu) ⟨qb, qo, none⟩ q.size qc (q.toList.map (Value.int .i64)) rfl (by simp) (by refine reads_list (hqr.below hqb (sd_below (B := wr.heap.size) (v := .int .i64 v) ?_)) _ rfl; go_split_ands; repeat (first | exact hS | exact ⟨by assumption, by assumption⟩ | refine sd_drew ?_ | refine sd_alloc _ hs2 ?_)) (ints_one _) hf1 hm1 hf2 ?_; intro v1 w1 hown1 hgrow1; simp only [Nat.zero_add, List.nil_append] at hown1; have hF := app_facts (W0 := W0) (by first | exact ((Below.refl _ W0).alloc (Nat.le_refl _) _).drew | exact (((Below.refl _ W0).alloc (Nat.le_refl _) _).alloc (by simp) _).drew) hgrow1 hown1; clear hgrow1 hown1; obtain ⟨hB1, hO1, hC1⟩ := hF; have hS1 : Below W0.heap.size W0 w1 ∧ w1.cell? ⟨wr.heap.size, 1, none⟩ = some (.int .i64 v) := ⟨hB1, (hB1.cell (p := ⟨wr.heap.size, 1, none⟩) hs2).trans hs3⟩) | (revert hO1; intro hO1; refine step_append_lies _ rfl (.tmp 23) (.tmp 26) 24 rfl W0.heap.size 3 t0 (.int .i64 0) 1 8 Try.underlying24 hi hz0 hz1 hz2 rfl (by decide) v1 q.size (q.toList.map (Value.int .i64)) (by rfl) (by first | exact hO1 | exact hO1.alloc _) ⟨_, 0, none⟩ 1 1 [.int .i64 v] (by rfl) rfl (by first | exact news_kept hC1 (by simp <;> omega) HN2.out | exact news_kept hC1 (by simp <;> omega) HN3.out | exact cell_one_new _ _ _) hOne2 Nat.zero_lt_one hm2 hf3 (by first | exact hB1.size | (have := hB1.size; simp; omega)) _ rfl ?_; intro g2 c2 w2 hown2 hgrow2 hat2 hgl2))
            all_goals rename_i hHeld
            all_goals have HG2 := Lib.hid (own_good hown2 hgl2)
            all_goals have HB2 := Lib.hid (hbel.out.trans ((hs1.mono hbel.out.size).trans (hHeld.1.mono (Nat.le_trans hbel.out.size hs1.size))))
            all_goals clear hHeld hown2 hgrow2 hat2 hgl2 hO1 hC1 hS1 hB1
            all_goals go_wp2
            all_goals go_roundw
            all_goals first
              | exact ⟨k + 1, _, c2, q.push v, by omega, by go_num, by simp, Lib.hid (by rw [run, hrun.out, Option.bind_some, HX.out]; rfl), HG2, HB2⟩
              | (simp [intOf]; omega)
      | false =>
        have hB1 := (Below.refl wr.heap.size wr).alloc (Nat.le_refl _) (.cells #[.bool false, .int .i64 v, .int .i64 f, .int .i64 t] 58)
        have HB1 := Lib.hid hB1
        clear hB1
        by_cases hv : v < 0
        · by_cases hz : q.size = 0
          · obtain rfl : q = #[] := Array.eq_empty_of_size_eq_zero hz
            simp only [Array.size_empty] at hqs ⊢
            go_wp2
            go_roundw
            case rel => exact ⟨k + 1, a, qc, #[], by omega, by go_num, by simp, Lib.hid (by rw [run, hrun.out, Option.bind_some, HX.out]; simp [stepA, hv]), Lib.hid (hgood.out.below HB1.out), Lib.hid (hbel.out.trans (HB1.out.mono hbel.out.size))⟩
            case measure => simp [intOf]; omega
          · have h3 : (0 : Int) < (q.size : Int) := by omega
            go_wp2
            go_ret
            exact ⟨false, rfl, ⟨fun h => absurd h (by decide), fun h => absurd h (not_plays hlt hrun.out HX.out (by simp [stepA, hv, hz]))⟩, hbel.out.trans (HB1.out.mono hbel.out.size)⟩
        · have hd : decide (v < 0) = false := by simpa using hv
          by_cases hz : q.size = 0
          · have HZ := Lib.hid (show stepA q ⟨false, v, f, t⟩ = none by simp [stepA, hv, hz])
            rw [hz]
            go_wp2_with fail
            go_quiet (fail)
            go_wp2
            go_ret
            exact ⟨false, rfl, ⟨fun h => absurd h (by decide), fun h => absurd h (not_plays hlt hrun.out HX.out HZ.out)⟩, below_drewN (hbel.out.trans (HB1.out.mono hbel.out.size)) _⟩
          · rcases hgood.out with ⟨_, e, _⟩ | ⟨qb, qo, rfl, hqc, hqb, hqr⟩
            · rw [e] at hz; exact absurd rfl hz
            · have c0 := hqr 0 (by omega)
              rw [Nat.add_zero] at c0
              have h3 : (0 : Int) < (q.size : Int) := by omega
              have h4 : ((q.size : Int) == 0) = false := beq_eq_false_iff_ne.2 (by omega)
              have h5 : 1 ≤ q.size := by omega
              have c1 : (wr.alloc (.cells #[.bool false, .int .i64 v, .int .i64 f, .int .i64 t] 58)).cell? ⟨qb, qo, none⟩ = some (.int .i64 q[0]!) := (HB1.out.cell (p := ⟨qb, qo, none⟩) hqb).trans c0
              have HQR := Lib.hid hqr
              clear hqr
              by_cases hy : q[0]! = v
              · rw [hy] at c1 c0
                have HST := Lib.hid (show stepA q ⟨false, v, f, t⟩ = some (q.extract 1 q.size) by simp [stepA, hv, hz, hy])
                clear hy
                go_wp2_with fail
                go_quiet (fail)
                by_cases hc1 : qc = 1
                · have hq1 : q.size = 1 := by omega
                  have HG := Lib.hid (show Good (wr.alloc (.cells #[.bool false, .int .i64 v, .int .i64 f, .int .i64 t] 58)) (some ⟨qb, qo, none⟩) 0 (q.extract 1 q.size) from .inr ⟨qb, qo, rfl, by simp; omega, Nat.lt_of_lt_of_le hqb HB1.out.size, fun j hj => by simp at hj; omega⟩)
                  subst hc1
                  go_wp2
                  go_roundw
                  case rel => exact ⟨k + 1, some ⟨qb, qo, none⟩, 0, q.extract 1 q.size, by omega, by go_num, (by simp; omega), Lib.hid (by rw [run, hrun.out, Option.bind_some, HX.out, HST.out]), HG, Lib.hid (below_drewN (hbel.out.trans (HB1.out.mono hbel.out.size)) _)⟩
                  case measure => simp [intOf]; omega
                · have HG := Lib.hid (show Good (wr.alloc (.cells #[.bool false, .int .i64 v, .int .i64 f, .int .i64 t] 58)) (some ⟨qb, qo + 1, none⟩) (qc - 1) (q.extract 1 q.size) from .inr ⟨qb, qo + 1, rfl, by simp; omega, Nat.lt_of_lt_of_le hqb HB1.out.size, fun j hj => by
                    simp only [Array.size_extract] at hj
                    have := (HQR.out.below hqb HB1.out) (1 + j) (by omega)
                    rw [getElem!_pos q _ (by omega)] at this
                    rw [getElem!_pos _ j (by simp; omega), Nat.add_assoc, this]
                    simp⟩)
                  go_wp2
                  go_roundw
                  case rel => exact ⟨k + 1, some ⟨qb, qo + 1, none⟩, qc - 1, q.extract 1 q.size, by omega, by go_num, by simp, Lib.hid (by rw [run, hrun.out, Option.bind_some, HX.out, HST.out]), HG, Lib.hid (below_drewN (hbel.out.trans (HB1.out.mono hbel.out.size)) _)⟩
                  case measure => simp [intOf]; omega
              · have hne : (q[0]! != v) = true := by simpa using hy
                have HST := Lib.hid (show stepA q ⟨false, v, f, t⟩ = none by simp [stepA, hv, hz, hy])
                obtain ⟨y, hyy⟩ : ∃ y, q[0]! = y := ⟨_, rfl⟩
                rw [hyy] at c0 c1 hne hy
                clear hyy
                go_wp2_with fail
                go_quiet (fail)
                go_wp2
                go_ret
                exact ⟨false, rfl, ⟨fun h => absurd h (by decide), fun h => absurd h (not_plays hlt hrun.out HX.out HST.out)⟩, below_drewN (hbel.out.trans (HB1.out.mono hbel.out.size)) _⟩
    · obtain rfl : k = d.size := by omega
      go_wp2
      go_ret
      exact ⟨true, rfl, ⟨fun _ => by rw [Plays, hrun.out]; simp, fun _ => rfl⟩, hbel.out⟩

end Go.Proofs.Ytkbbpjknakajeaa.Li
