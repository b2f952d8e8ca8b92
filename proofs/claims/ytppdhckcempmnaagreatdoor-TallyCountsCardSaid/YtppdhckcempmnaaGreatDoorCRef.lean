/- The document's cells. -/
import Derived.Test.YtppdhckcempmnaaGreatDoorB3
import Derived.Test.YtppdhckcempmnaaGreatDoorB2
namespace Go.Proofs.YtppdhckcempmnaaGreatDoor.Ce
open Go Go.RowKit Go.Lib Go.Maps
set_option maxRecDepth 1000000 in
set_option maxHeartbeats 25600000 in
theorem cellsR_any (al : Option Addr) (cl : Nat) (l : Array Ev) (w : World) (hT : Tr w al l) (hn : l.size ≤ 600) :
    Calls Tryz.prog 11 #[.slice al l.size cl] w fun e w' => ∃ v, e = .returned v ∧ RowS w w' v (cellsL l l.size) := by
  obtain ⟨i0, hi, hz0, hz1, hz2⟩ := info_parts info34
  have HI := Lib.hid (And.intro hi (And.intro hz0 (And.intro hz1 hz2)))
  have HT := Lib.hid hT
  clear hT hi hz0 hz1 hz2
  go_enter Tryz.func11, Tryz.ntmps11
  go_wp2_with fail
  go_loopw [3, 14] (fun v s wr => ∃ k : Nat, k ≤ l.size ∧ s = .int .i64 k ∧ Hid (RowS w wr v (cellsL l k))) (fun _ s _ => l.size - (RowKit.intOf s).toNat)
  case atStart => exact ⟨0, Nat.zero_le _, rfl, Lib.hid ⟨World.ownsRow_nil _ _ _ _, Below.refl _ _⟩⟩
  case round =>
    obtain ⟨k, hk, rfl, HR⟩ := hrel
    by_cases hlt : k < l.size
    · obtain ⟨b, o, rfl, hb, hA⟩ := (HT.out.below HR.out.b) k hlt
      obtain ⟨c0, c1, c2, c3, c4, c5, c6, c7, c8, c9, c10, c11⟩ := hA
      obtain ⟨x, hx⟩ : ∃ x, l[k]! = x := ⟨_, rfl⟩
      obtain ⟨L0, hL0⟩ : ∃ L0, cellsL l k = L0 := ⟨_, rfl⟩
      have hlen := cellsL_len l k
      have hnext : cellsL l (k + 1) = evL x L0 := by rw [cellsL, hx, hL0]
      rw [hL0] at HR hlen
      have hlen : L0.length ≤ 1200 := by omega
      rw [hx] at c0 c1 c2 c3 c4 c5 c6 c7 c8 c9 c10 c11
      have c25 := fun W => bytes_any x W
      unfold Touches at c25
      obtain ⟨⟨n, lo, wt⟩, ht⟩ : ∃ t, touched x = t := ⟨_, rfl⟩
      have hev : evL x L0 = if x.pk = 0 then putsL lo wt (places x) L0 else L0 := by unfold evL; rw [ht]
      have hpl : places x = if n < 1 ∨ 8 < n ∨ x.at_ < 0 ∨ 131072 < x.at_ then [] else (x.at_ / 8 * 8) :: (if x.at_ / 8 * 8 + 8 < x.at_ + n then [x.at_ / 8 * 8 + 8] else []) := by unfold places; rw [ht]
      rw [ht] at c25
      rw [hev] at hnext
      have HX := Lib.hid (And.intro hnext hpl)
      clear hnext hpl hev ht hx hL0
      have h1 : (k : Int) < (l.size : Int) := by omega
      have h2 : (0 : Int) ≤ (k : Int) := by omega
      obtain ⟨pk, act, pn, ak, at_, n0, v, ww, bo, bl, bc, av, done, ao, al2, ac⟩ := x
      unfold Ev.val at c25
      dsimp only at c0 c1 c2 c3 c4 c5 c6 c7 c8 c9 c10 c11 c25 HX
      obtain ⟨W1, hW1⟩ : ∃ W1, wr.alloc (.cells #[.int .i64 pk, .int .i64 act, .int .i64 pn, .int .i64 ak, .int .i64 at_, .int .i64 n0, .int .u64 v, .int .u64 ww, .slice bo bl bc, .int .u64 av, .bool done, .slice ao al2 ac] 67) = W1 := ⟨_, rfl⟩
      obtain ⟨A, hA⟩ : ∃ A, wr.heap.size = A := ⟨_, rfl⟩
      have u0 : W1.heap[A]? = some (.cells #[.int .i64 pk, .int .i64 act, .int .i64 pn, .int .i64 ak, .int .i64 at_, .int .i64 n0, .int .u64 v, .int .u64 ww, .slice bo bl bc, .int .u64 av, .bool done, .slice ao al2 ac] 67 (0, 0)) := by rw [← hW1, ← hA]; exact heap_new _ _
      have u1 : RowS w W1 u3 L0 := by rw [← hW1]; exact HR.out.grow ((Below.refl _ _).alloc (Nat.le_refl _) _)
      have hsz : W1.heap.size = A + 1 := by rw [← hW1]; simp [hA]
      have HU := Lib.hid (And.intro u0 (And.intro u1 hsz))
      obtain ⟨m0, m1, m2, m3, m4, m5, m6, m7, m8, m9, m10, m11⟩ := blk12 u0
      clear u0 u1 hsz HR
      by_cases hbad : pk ≠ 0 ∨ n < 1 ∨ 8 < n ∨ at_ < 0 ∨ 131072 < at_
      · have HN : Hid (cellsL l (k + 1) = L0) := Lib.hid (by
          rw [HX.out.1]
          split
          · rename_i hpk
            have hb : n < 1 ∨ 8 < n ∨ at_ < 0 ∨ 131072 < at_ := hbad.resolve_left (fun h => h hpk)
            rw [HX.out.2, if_pos hb]
            rfl
          · rfl)
        have hor : (pk != 0) = true ∨ ((pk != 0) = false ∧ n < 1) ∨ ((pk != 0) = false ∧ ¬ n < 1 ∧ 8 < n) ∨ ((pk != 0) = false ∧ ¬ n < 1 ∧ ¬ 8 < n ∧ at_ < 0) ∨ ((pk != 0) = false ∧ ¬ n < 1 ∧ ¬ 8 < n ∧ ¬ at_ < 0 ∧ 131072 < at_) := by
          by_cases h : pk = 0
          · have h' : (pk != 0) = false := by simp [h]
            simp only [h', Bool.false_eq_true, false_or, true_and]
            have hb : n < 1 ∨ 8 < n ∨ at_ < 0 ∨ 131072 < at_ := hbad.resolve_left (fun hh => hh h)
            omega
          · exact .inl (by simpa using h)
        clear hbad HX
        rcases hor with g0 | ⟨g0, g1⟩ | ⟨g0, g1, g2⟩ | ⟨g0, g1, g2, g3⟩ | ⟨g0, g1, g2, g3, g4⟩
        all_goals go_wp2_with (go_at_call 25; refine (c25 _).mono ?_; clear c25; rintro e w1 ⟨rfl, hB1⟩
                               have v0 := (hB1.block A (by have := HU.out.2.2; omega)).trans HU.out.1
                               have v1 := HU.out.2.1.grow hB1
                               obtain ⟨k0, k1, k2, k3, k4, k5, k6, k7, k8, k9, k10, k11⟩ := blk12 v0
                               have HV := Lib.hid v1
                               clear hB1 v0 v1)
        all_goals go_roundw
        all_goals first
          | (simp only [RowKit.intOf]; omega)
          | (refine ⟨k + 1, by omega, by go_num, Lib.hid ?_⟩
             rw [HN.out]
             exact HV.out)
      · obtain rfl : pk = 0 := Classical.byContradiction fun h => hbad (.inl h)
        have hbad' : ¬ (n < 1 ∨ 8 < n ∨ at_ < 0 ∨ 131072 < at_) := fun h => hbad (.inr h)
        have hn1 : ¬ n < 1 := fun h => hbad' (.inl h)
        have hn8 : ¬ n > 8 := fun h => hbad' (.inr (.inl h))
        have ha0 : ¬ at_ < 0 := fun h => hbad' (.inr (.inr (.inl h)))
        have ha1 : ¬ at_ > 131072 := fun h => hbad' (.inr (.inr (.inr h)))
        obtain ⟨q, hq⟩ : ∃ q, at_ / 8 * 8 = q := ⟨_, rfl⟩
        have key : at_.tdiv 8 * 8 = q := by rw [Int.tdiv_eq_ediv_of_nonneg (by omega)]; exact hq
        have key2 : IntKind.i64.wrap (at_.tdiv 8) = at_.tdiv 8 := wrap_i64_small _ (by omega) (by omega)
        have key3 : IntKind.i64.wrap (at_.tdiv 8 * 8) = q := by rw [key]; exact wrap_i64_small _ (by omega) (by omega)
        go_wp2_with (go_at_call 25; refine (c25 _).mono ?_; clear c25; rintro e w1 ⟨rfl, hB1⟩
                     have v0 := (hB1.block A (by have := HU.out.2.2; omega)).trans HU.out.1
                     have v1 := HU.out.2.1.grow hB1
                     obtain ⟨k0, k1, k2, k3, k4, k5, k6, k7, k8, k9, k10, k11⟩ := blk12 v0
                     have HV := Lib.hid v1
                     clear hB1 v0 v1)
        clear k0 k1 k2 k3 k4 k5 k6 k7 k8 k9 k10 k11 m0 m1 m2 m3 m4 m5 m6 m7 m8 m9 m10 m11 key key2 key3 c0 c1 c2 c3 c4 c5 c6 c7 c8 c9 c10 c11
        have hqa : q ≤ at_ ∧ at_ < q + 8 := by omega
        have HP : Hid ((places ⟨0, act, pn, ak, at_, n0, v, ww, bo, bl, bc, av, done, ao, al2, ac⟩) = q :: (if q + 8 < at_ + n then [q + 8] else [])) := Lib.hid (by rw [HX.out.2, if_neg hbad', hq])
        have HXX : Hid (cellsL l (k + 1) = putsL lo wt (places ⟨0, act, pn, ak, at_, n0, v, ww, bo, bl, bc, av, done, ao, al2, ac⟩) L0) := Lib.hid (by rw [HX.out.1, if_pos (by trivial)])
        have hq0 : 0 ≤ q := by omega
        clear hbad hbad' hq HX HU
        go_loopw [3, 10] (fun vv s wr => ∃ i : Nat, s = .int .i64 (q + 8 * i) ∧ i ≤ 2 ∧ q + 8 * i < at_ + n + 8 ∧ Hid (∃ L, RowS w wr vv L ∧ L = putsL lo wt ((places ⟨0, act, pn, ak, at_, n0, v, ww, bo, bl, bc, av, done, ao, al2, ac⟩).take i) L0 ∧ L.length ≤ 1200 + i)) (fun _ s _ => (at_ + n - RowKit.intOf s).toNat)
        case atStart => exact ⟨0, by simp, by omega, by omega, Lib.hid ⟨L0, HV.out, by simp [putsL], by omega⟩⟩
        case round =>
          obtain ⟨i, rfl, hi2, hi8, HE⟩ := hrel
          clear HV
          obtain ⟨p, hp⟩ : ∃ p, q + 8 * (i : Int) = p := ⟨_, rfl⟩
          rw [hp] at hi8 ⊢
          have hsum : IntKind.i64.wrap (at_ + n) = at_ + n := wrap_i64_small _ (by omega) (by omega)
          by_cases hlt2 : p < at_ + n
          · have hi1 : i ≤ 1 := by omega
            have hps : (places ⟨0, act, pn, ak, at_, n0, v, ww, bo, bl, bc, av, done, ao, al2, ac⟩).take (i + 1) = (places ⟨0, act, pn, ak, at_, n0, v, ww, bo, bl, bc, av, done, ao, al2, ac⟩).take i ++ [p] := by
              rw [HP.out]
              match i, hi1 with
              | 0, _ => simp at hp ⊢; exact hp
              | 1, _ =>
                have : q + 8 < at_ + n := by omega
                rw [if_pos this]
                simp
                omega
            have hp8 : IntKind.i64.wrap (p + 8) = p + 8 := wrap_i64_small _ (by omega) (by omega)
            obtain ⟨L, hR, hLL, hLn⟩ := HE.out
            obtain ⟨aw, cap, rfl, hcap, hao⟩ := hR.form
            have hputs : putsL lo wt ((places ⟨0, act, pn, ak, at_, n0, v, ww, bo, bl, bc, av, done, ao, al2, ac⟩).take (i + 1)) L0 = putL lo wt p L := by
              rw [hps, putsL, List.foldl_append, hLL]
              rfl
            have HR := Lib.hid (And.intro hR (And.intro hputs (And.intro hp (And.intro hLn (And.intro hcap hao)))))
            clear hR hputs hp hps hLL HE hLn hcap hao
            have hL64 : L.length ≤ 1202 := by have := HR.out.2.2.2.1; omega
            go_wp2_with fail
            go_loopw [11] (fun s wr2 => ∃ j : Nat, wr2 = wr ∧ s = .int .i64 j ∧ j ≤ L.length ∧ Hid (Ahead L p j)) (fun s _ => L.length - (RowKit.intOf s).toNat)
            case atStart => exact ⟨0, rfl, rfl, Nat.zero_le _, Lib.hid (fun j x hj => by omega)⟩
            case round =>
              obtain ⟨j, rfl, rfl, hj, hA⟩ := hrel
              have h1 : (0 : Int) ≤ (j : Int) := by omega
              by_cases hlt3 : j < L.length
              · obtain ⟨c, hc⟩ : ∃ c, L[j]? = some c := ⟨L[j], List.getElem?_eq_getElem hlt3⟩
                obtain ⟨g, rfl⟩ := HR.out.2.2.2.2.2 j c hc
                obtain ⟨x0, x1, x2, f1, f2, hg1, hg2⟩ := HR.out.1.cells hc
                have h2 : (j : Int) < (L.length : Int) := by omega
                have HCC := Lib.hid hc
                clear hc
                by_cases hcp : c.p < p
                · have hA' : Ahead L p (j + 1) := fun i y hi hy => by
                    rcases Nat.lt_or_ge i j with h | h
                    · exact hA.out i y h hy
                    · obtain rfl : i = j := by omega
                      rw [HCC.out] at hy
                      obtain rfl := Option.some.inj hy
                      exact hcp
                  have HA' := Lib.hid hA'
                  clear hA'
                  go_wp2_with fail
                  go_roundw
                  case rel => exact ⟨j + 1, by first | trivial | rfl, by go_num, by omega, HA'⟩
                  case measure => simp [RowKit.intOf]; omega
                · by_cases hce : c.p = p
                  · have HZ := Lib.hid (And.intro HR.out.1 (And.intro HCC.out (And.intro (show L.set j (bump lo wt c) = putsL lo wt ((places ⟨0, act, pn, ak, at_, n0, v, ww, bo, bl, bc, av, done, ao, al2, ac⟩).take (i + 1)) L0 by rw [HR.out.2.1, putL_at hA.out HCC.out hce]) (And.intro HR.out.2.2.1 (show L.length ≤ 1200 + i + 1 by have := HR.out.2.2.2.1; omega)))))
                    obtain ⟨cp, lk, wt'⟩ := c
                    dsimp only at x0 x1 x2 hce hcp
                    subst hce
                    cases lo <;> cases wt
                    all_goals go_wp2_with fail
                    all_goals go_roundw
                    all_goals first
                      | (simp only [RowKit.intOf]; omega)
                      | (refine ⟨i + 1, by have := HZ.out.2.2.2.1; first | (congr 1; omega) | (simp; omega), by omega, by have := HZ.out.2.2.2.1; omega, Lib.hid ⟨L.set j (bump _ _ ⟨cp, lk, wt'⟩), ?_, HZ.out.2.2.1, by rw [List.length_set]; have := HZ.out.2.2.2.2; omega⟩⟩
                         try simp only [bump_tt, bump_tf, bump_ft, bump_ff]
                         first
                           | exact HZ.out.1.same HZ.out.2.1
                           | exact HZ.out.1.look HZ.out.2.1 _
                           | exact HZ.out.1.write HZ.out.2.1 _
                           | exact HZ.out.1.both HZ.out.2.1 _ _)
                  · have hcg : p < c.p := by omega
                    have HM : Hid ((L.take j ++ (⟨p, 0, 0⟩ : Cl) :: L.drop j)[j]? = some ⟨p, 0, 0⟩ ∧ (j : Int) < ((L.take j ++ (⟨p, 0, 0⟩ : Cl) :: L.drop j).length : Int) ∧ (L.take j ++ (⟨p, 0, 0⟩ : Cl) :: L.drop j).set j (bump lo wt ⟨p, 0, 0⟩) = putsL lo wt ((places ⟨0, act, pn, ak, at_, n0, v, ww, bo, bl, bc, av, done, ao, al2, ac⟩).take (i + 1)) L0 ∧ q + 8 * (i : Int) = p ∧ (L.take j ++ (⟨p, 0, 0⟩ : Cl) :: L.drop j).length ≤ 1200 + i + 1) := by
                      have e1 : (L.take j).length = j := by rw [List.length_take]; omega
                      refine Lib.hid ⟨by rw [List.getElem?_append_right (by omega), e1]; simp, by simp; omega, ?_, HR.out.2.2.1, by have := HR.out.2.2.2.1; simp; omega⟩
                      rw [HR.out.2.1, putL_new hA.out (fun y hy => by rw [HCC.out] at hy; obtain rfl := Option.some.inj hy; exact hcg) hj, List.set_append_right _ _ (by omega), e1]
                      simp
                    obtain ⟨R, hRR⟩ : ∃ R, L.take j ++ (⟨p, 0, 0⟩ : Cl) :: L.drop j = R := ⟨_, rfl⟩
                    rw [hRR] at HM
                    have HRR := Lib.hid hRR
                    clear hRR
                    have hpe : (c.p != p) = true := by simpa using hce
                    have HT1 : Hid ((flatC (L.take j)).length = j * 3 ∧ ((some ⟨g, 0, none⟩ : Option Addr) = none → j = 0) ∧ (∀ W : World, Below wr.heap.size wr W → ∀ ad, (some ⟨g, 0, none⟩ : Option Addr) = some ad → ∀ j' u, (flatC (L.take j))[j']? = some u → W.cell? (ad.add j') = some u) ∧ 0 + j ≤ maxLen ∧ (0 + j) * 24 ≤ 140737488355328) := Lib.hid (ht_of HR.out.1 hj (by omega))
                    have HT2 : Hid (0 + j + 1 ≤ maxLen ∧ (0 + j + 1) * 24 ≤ 140737488355328) := Lib.hid ⟨Nat.le_trans (by omega : 0 + j + 1 ≤ 1300) (by decide), by omega⟩
                    have HT3 : Hid ((flatC (L.drop j)).length = (L.length - j) * 3 ∧ ((some ⟨g, j * 3, none⟩ : Option Addr) = none → L.length - j = 0) ∧ (∀ W : World, Below wr.heap.size wr W → ∀ ad, (some ⟨g, j * 3, none⟩ : Option Addr) = some ad → ∀ j' u, (flatC (L.drop j))[j']? = some u → W.cell? (ad.add j') = some u) ∧ (∀ u ∈ flatC (L.drop j), u.oneCell' = true) ∧ 0 + j + 1 + (L.length - j) ≤ maxLen ∧ (0 + j + 1 + (L.length - j)) * 24 ≤ 140737488355328) := Lib.hid ⟨(by rw [flatC_len]; simp), (fun h => by cases h), (fun W hb ad had => by
                      cases had
                      exact news_old HR.out.1 hb _ (fun j' u hj' => by rw [← flatC_drop, List.getElem?_drop] at hj'; exact hj')), flatC_one _, Nat.le_trans (by omega : 0 + j + 1 + (L.length - j) ≤ 1300) (by decide), (by omega)⟩
                    have hcap := HR.out.2.2.2.2.1
                    have hjc : j ≤ cap := by omega
                    have hcj : ¬ cap = j := by omega
                    have hjc2 : (j : Int) ≤ (L.length : Int) := by omega
                    clear hcap
                    go_wp2_with fail
                    go_region_law
                      (first
                        | (refine step_app _ rfl (.tmp 85) (.tmp 88) 25 rfl wr.heap.size 34 i0 (.agg #[.int .i64 0, .int .i64 0, .int .i64 0]) 3 24 Tryz.underlying25 HI.out.1 HI.out.2.1 HI.out.2.2.1 HI.out.2.2.2 rfl (by decide) _ 0 [] (by rfl) (by first | exact (own_new _ (by simp) (by simp)).drew | exact ((own_new _ (by simp) (by simp)).alloc _).drew) (some ⟨g, 0, none⟩) j cap (flatC (L.take j)) (by rfl) HT1.out.1 HT1.out.2.1 (HT1.out.2.2.1 _ (by first | exact ((Below.refl _ _).alloc (Nat.le_refl _) _).drew | exact (((Below.refl _ _).alloc (Nat.le_refl _) _).alloc (by simp) _).drew)) (flatC_one _) HT1.out.2.2.2.1 HT1.out.2.2.2.2 (by first | (simp; done) | (simp; omega)) ?_
                           intro v1 w1 hO1 hG1 hA1
                           have hB1 : Below wr.heap.size wr w1 := (show Below wr.heap.size wr _ from (by first | exact ((Below.refl _ _).alloc (Nat.le_refl _) _).drew | exact (((Below.refl _ _).alloc (Nat.le_refl _) _).alloc (by simp) _).drew)).grown hG1 (by first | (simp; done) | (simp; omega)) (by intro j hj; cases hj; first | exact Nat.le_refl _ | (simp; done))
                           have HG1 := Lib.hid (show World.grownBy _ w1 (some _) from hG1)
                           clear hG1 hA1)
                        | (refine step_app _ rfl (.tmp 89) (.tmp 92) 25 rfl wr.heap.size 34 i0 (.agg #[.int .i64 0, .int .i64 0, .int .i64 0]) 3 24 Tryz.underlying25 HI.out.1 HI.out.2.1 HI.out.2.2.1 HI.out.2.2.2 rfl (by decide) v1 (0 + j) ([] ++ flatC (L.take j)) (by rfl) (by first | exact hO1 | exact hO1.alloc _) (some ⟨_, 0, none⟩) 1 1 [.int .i64 p, .int .i64 0, .int .i64 0] (by rfl) rfl (by intro h; cases h) (by intro ad h; cases h; first | exact three_new _ (by rfl) p 0 0 | exact news_grown HG1.out (by first | (simp; done) | (simp; omega)) (three_new _ (by simp) p 0 0) | exact news_grown HG1.out (by first | (simp; done) | (simp; omega)) (news_alloc _ (three_new _ (by simp) p 0 0))) (by intro u hu; simp at hu; rcases hu with rfl | rfl | rfl <;> rfl) HT2.out.1 HT2.out.2 (by first | exact hB1.size | exact (hB1.alloc hB1.size _).size) ?_
                           intro v2 w2 hO2 hG2 hA2
                           have hB2 : Below wr.heap.size wr w2 := (by first | exact hB1.grown hG2 hB1.size (fun j hj => (hO1.lt j hj).1) | exact (hB1.alloc hB1.size _).grown hG2 (hB1.alloc hB1.size _).size (fun j hj => (hO1.lt j hj).1))
                           clear hG2 hA2 HG1)
                        | (refine step_app _ rfl (.tmp 93) (.tmp 96) 25 rfl wr.heap.size 34 i0 (.agg #[.int .i64 0, .int .i64 0, .int .i64 0]) 3 24 Tryz.underlying25 HI.out.1 HI.out.2.1 HI.out.2.2.1 HI.out.2.2.2 rfl (by decide) v2 (0 + j + 1) ([] ++ flatC (L.take j) ++ [.int .i64 p, .int .i64 0, .int .i64 0]) (by rfl) hO2 (some ⟨g, j * 3, none⟩) (L.length - j) _ (flatC (L.drop j)) (by rfl) HT3.out.1 HT3.out.2.1 (HT3.out.2.2.1 _ hB2) HT3.out.2.2.2.1 HT3.out.2.2.2.2.1 HT3.out.2.2.2.2.2 hB2.size ?_
                           intro v3 w3 hO3 hG3 hA3
                           have hO3 : World.ownsRow _ _ _ _ _ R.length (flatC R) := HRR.out ▸ (fin_own hj hO3)
                           have hB3 : Below wr.heap.size wr w3 := hB2.grown hG3 hB2.size (fun j hj => (hO2.lt j hj).1)
                           have hR3 : RowS w w3 v3 R := ⟨own_mono hO3 HR.out.1.b.size, HR.out.1.b.trans (hB3.mono HR.out.1.b.size)⟩
                           obtain ⟨aw3, cap3, rfl, hcap3, hao3⟩ := hR3.form
                           have hc3 : R[j]? = some ⟨p, 0, 0⟩ := HM.out.1
                           obtain ⟨g3, rfl⟩ := hao3 j _ hc3
                           obtain ⟨y0, y1, y2, f3, f4, _, _⟩ := hR3.cells hc3
                           have hlt4 : (j : Int) < (R.length : Int) := HM.out.2.1
                           have HZ := Lib.hid (And.intro hR3 (And.intro hc3 HM.out.2.2))
                           clear hG3 hA3 hO1 hO2 hO3 hB1 hB2 hB3 hR3 hc3 hcap3 hao3))
                    all_goals (cases lo <;> cases wt)
                    all_goals go_wp2_with fail
                    all_goals go_roundw
                    all_goals first
                      | (simp only [RowKit.intOf]; omega)
                      | (refine ⟨i + 1, by have := HZ.out.2.2.2.1; first | (congr 1; omega) | (simp; omega), by omega, by have := HZ.out.2.2.2.1; omega, Lib.hid ⟨R.set j (bump _ _ ⟨p, 0, 0⟩), ?_, HZ.out.2.2.1, by rw [List.length_set]; have := HZ.out.2.2.2.2; omega⟩⟩
                         try simp only [bump_tt, bump_tf, bump_ft, bump_ff]
                         first
                           | (rw [List.length_set]; exact HZ.out.1.same HZ.out.2.1)
                           | exact HZ.out.1.same HZ.out.2.1
                           | exact HZ.out.1.look HZ.out.2.1 _
                           | exact HZ.out.1.write HZ.out.2.1 _
                           | exact HZ.out.1.both HZ.out.2.1 _ _)
              · obtain rfl : j = L.length := by omega
                have HM : Hid ((L.take L.length ++ (⟨p, 0, 0⟩ : Cl) :: L.drop L.length)[L.length]? = some ⟨p, 0, 0⟩ ∧ (L.length : Int) < ((L.take L.length ++ (⟨p, 0, 0⟩ : Cl) :: L.drop L.length).length : Int) ∧ (L.take L.length ++ (⟨p, 0, 0⟩ : Cl) :: L.drop L.length).set L.length (bump lo wt ⟨p, 0, 0⟩) = putsL lo wt ((places ⟨0, act, pn, ak, at_, n0, v, ww, bo, bl, bc, av, done, ao, al2, ac⟩).take (i + 1)) L0 ∧ q + 8 * (i : Int) = p ∧ (L.take L.length ++ (⟨p, 0, 0⟩ : Cl) :: L.drop L.length).length ≤ 1200 + i + 1) := by
                  have e1 : (L.take L.length).length = L.length := by rw [List.length_take]; omega
                  refine Lib.hid ⟨by rw [List.getElem?_append_right (by omega), e1]; simp, by simp; omega, ?_, HR.out.2.2.1, by have := HR.out.2.2.2.1; simp; omega⟩
                  rw [HR.out.2.1, putL_new hA.out (fun y hy => by simp at hy) hj, List.set_append_right _ _ (by omega), e1]
                  simp
                obtain ⟨R, hRR⟩ : ∃ R, L.take L.length ++ (⟨p, 0, 0⟩ : Cl) :: L.drop L.length = R := ⟨_, rfl⟩
                rw [hRR] at HM
                have HRR := Lib.hid hRR
                clear hRR
                have HT1 : Hid ((flatC (L.take L.length)).length = L.length * 3 ∧ (aw = none → L.length = 0) ∧ (∀ W : World, Below wr.heap.size wr W → ∀ ad, aw = some ad → ∀ j' u, (flatC (L.take L.length))[j']? = some u → W.cell? (ad.add j') = some u) ∧ 0 + L.length ≤ maxLen ∧ (0 + L.length) * 24 ≤ 140737488355328) := Lib.hid (ht_of HR.out.1 (Nat.le_refl _) (by omega))
                have HT2 : Hid (0 + L.length + 1 ≤ maxLen ∧ (0 + L.length + 1) * 24 ≤ 140737488355328) := Lib.hid ⟨Nat.le_trans (by omega : 0 + L.length + 1 ≤ 1300) (by decide), by omega⟩
                have HT3 : Hid (([] : List Value).length = 0 * 3 ∧ ((if cap = L.length then aw else aw.map (fun x => x.add (L.length * 3))) = none → 0 = 0) ∧ (∀ W : World, Below wr.heap.size wr W → ∀ ad, (if cap = L.length then aw else aw.map (fun x => x.add (L.length * 3))) = some ad → ∀ j' u, ([] : List Value)[j']? = some u → W.cell? (ad.add j') = some u) ∧ (∀ u ∈ ([] : List Value), u.oneCell' = true) ∧ 0 + L.length + 1 + 0 ≤ maxLen ∧ (0 + L.length + 1 + 0) * 24 ≤ 140737488355328) := Lib.hid ⟨rfl, fun _ => rfl, fun _ _ _ _ j' u h => by simp at h, fun u h => by simp at h, HT2.out.1, HT2.out.2⟩
                have hjc := HR.out.2.2.2.2.1
                go_wp2_with fail
                go_region_law
                  (first
                    | (refine step_app _ rfl (.tmp 85) (.tmp 88) 25 rfl wr.heap.size 34 i0 (.agg #[.int .i64 0, .int .i64 0, .int .i64 0]) 3 24 Tryz.underlying25 HI.out.1 HI.out.2.1 HI.out.2.2.1 HI.out.2.2.2 rfl (by decide) _ 0 [] (by rfl) (by first | exact (own_new _ (by simp) (by simp)).drew | exact ((own_new _ (by simp) (by simp)).alloc _).drew) aw L.length cap (flatC (L.take L.length)) (by rfl) HT1.out.1 HT1.out.2.1 (HT1.out.2.2.1 _ (by first | exact ((Below.refl _ _).alloc (Nat.le_refl _) _).drew | exact (((Below.refl _ _).alloc (Nat.le_refl _) _).alloc (by simp) _).drew)) (flatC_one _) HT1.out.2.2.2.1 HT1.out.2.2.2.2 (by first | (simp; done) | (simp; omega)) ?_
                       intro v1 w1 hO1 hG1 hA1
                       have hB1 : Below wr.heap.size wr w1 := (show Below wr.heap.size wr _ from (by first | exact ((Below.refl _ _).alloc (Nat.le_refl _) _).drew | exact (((Below.refl _ _).alloc (Nat.le_refl _) _).alloc (by simp) _).drew)).grown hG1 (by first | (simp; done) | (simp; omega)) (by intro j hj; cases hj; first | exact Nat.le_refl _ | (simp; done))
                       have HG1 := Lib.hid (show World.grownBy _ w1 (some _) from hG1)
                       clear hG1 hA1)
                    | (refine step_app _ rfl (.tmp 89) (.tmp 92) 25 rfl wr.heap.size 34 i0 (.agg #[.int .i64 0, .int .i64 0, .int .i64 0]) 3 24 Tryz.underlying25 HI.out.1 HI.out.2.1 HI.out.2.2.1 HI.out.2.2.2 rfl (by decide) v1 (0 + L.length) ([] ++ flatC (L.take L.length)) (by rfl) (by first | exact hO1 | exact hO1.alloc _) (some ⟨_, 0, none⟩) 1 1 [.int .i64 p, .int .i64 0, .int .i64 0] (by rfl) rfl (by intro h; cases h) (by intro ad h; cases h; first | exact three_new _ (by rfl) p 0 0 | exact news_grown HG1.out (by first | (simp; done) | (simp; omega)) (three_new _ (by simp) p 0 0) | exact news_grown HG1.out (by first | (simp; done) | (simp; omega)) (news_alloc _ (three_new _ (by simp) p 0 0))) (by intro u hu; simp at hu; rcases hu with rfl | rfl | rfl <;> rfl) HT2.out.1 HT2.out.2 (by first | exact hB1.size | exact (hB1.alloc hB1.size _).size) ?_
                       intro v2 w2 hO2 hG2 hA2
                       have hB2 : Below wr.heap.size wr w2 := (by first | exact hB1.grown hG2 hB1.size (fun j hj => (hO1.lt j hj).1) | exact (hB1.alloc hB1.size _).grown hG2 (hB1.alloc hB1.size _).size (fun j hj => (hO1.lt j hj).1))
                       clear hG2 hA2 HG1)
                    | (refine step_app _ rfl (.tmp 93) (.tmp 96) 25 rfl wr.heap.size 34 i0 (.agg #[.int .i64 0, .int .i64 0, .int .i64 0]) 3 24 Tryz.underlying25 HI.out.1 HI.out.2.1 HI.out.2.2.1 HI.out.2.2.2 rfl (by decide) v2 (0 + L.length + 1) ([] ++ flatC (L.take L.length) ++ [.int .i64 p, .int .i64 0, .int .i64 0]) (by rfl) hO2 _ 0 _ [] (by rfl) rfl (fun _ => rfl) (HT3.out.2.2.1 _ hB2) HT3.out.2.2.2.1 HT3.out.2.2.2.2.1 HT3.out.2.2.2.2.2 hB2.size ?_
                       intro v3 w3 hO3 hG3 hA3
                       have hO3 : World.ownsRow _ _ _ _ _ R.length (flatC R) := HRR.out ▸ (fin_own0 hO3)
                       have hB3 : Below wr.heap.size wr w3 := hB2.grown hG3 hB2.size (fun j hj => (hO2.lt j hj).1)
                       have hR3 : RowS w w3 v3 R := ⟨own_mono hO3 HR.out.1.b.size, HR.out.1.b.trans (hB3.mono HR.out.1.b.size)⟩
                       obtain ⟨aw3, cap3, rfl, hcap3, hao3⟩ := hR3.form
                       have hc3 : R[L.length]? = some ⟨p, 0, 0⟩ := HM.out.1
                       obtain ⟨g3, rfl⟩ := hao3 L.length _ hc3
                       obtain ⟨y0, y1, y2, f3, f4, _, _⟩ := hR3.cells hc3
                       have hlt4 : (L.length : Int) < (R.length : Int) := HM.out.2.1
                       have HZ := Lib.hid (And.intro hR3 (And.intro hc3 HM.out.2.2))
                       clear hG3 hA3 hO1 hO2 hO3 hB1 hB2 hB3 hR3 hc3 hcap3 hao3))
                all_goals (cases lo <;> cases wt)
                all_goals go_wp2_with fail
                all_goals go_roundw
                all_goals first
                  | (simp only [RowKit.intOf]; omega)
                  | (refine ⟨i + 1, by have := HZ.out.2.2.2.1; first | (congr 1; omega) | (simp; omega), by omega, by have := HZ.out.2.2.2.1; omega, Lib.hid ⟨R.set L.length (bump _ _ ⟨p, 0, 0⟩), ?_, HZ.out.2.2.1, by rw [List.length_set]; have := HZ.out.2.2.2.2; omega⟩⟩
                     try simp only [bump_tt, bump_tf, bump_ft, bump_ff]
                     first
                       | (rw [List.length_set]; exact HZ.out.1.same HZ.out.2.1)
                       | exact HZ.out.1.same HZ.out.2.1
                       | exact HZ.out.1.look HZ.out.2.1 _
                       | exact HZ.out.1.write HZ.out.2.1 _
                       | exact HZ.out.1.both HZ.out.2.1 _ _)
          · have hall : (places ⟨0, act, pn, ak, at_, n0, v, ww, bo, bl, bc, av, done, ao, al2, ac⟩).take i = (places ⟨0, act, pn, ak, at_, n0, v, ww, bo, bl, bc, av, done, ao, al2, ac⟩) := by
              rw [HP.out]
              match i, hi2 with
              | 0, _ => exact absurd (by simp at hp; omega) hlt2
              | 1, _ =>
                rw [if_neg (by omega)]
                rfl
              | 2, _ =>
                split <;> rfl
            obtain ⟨L, hR, hLL, hLn⟩ := HE.out
            rw [hall] at hLL
            have HZ := Lib.hid (And.intro hR hLL)
            clear hR hLL hall hp HE
            go_wp2_with fail
            go_roundw
            case rel =>
              refine ⟨k + 1, by omega, by go_num, Lib.hid ?_⟩
              rw [HXX.out, ← HZ.out.2]
              exact HZ.out.1
            case measure => simp [RowKit.intOf]; omega
    · obtain rfl : k = l.size := by omega
      go_wp2_with fail
      go_ret
      exact ⟨_, rfl, HR.out⟩
end Go.Proofs.YtppdhckcempmnaaGreatDoor.Ce
