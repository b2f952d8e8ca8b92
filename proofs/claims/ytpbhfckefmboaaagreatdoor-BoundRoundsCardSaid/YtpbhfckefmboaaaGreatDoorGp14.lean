/- world.New, walked: a setup that may be. -/
import Derived.Test.YtpbhfckefmboaaaGreatDoorGp13
set_option linter.unusedVariables false
set_option linter.unusedSimpArgs false
set_option linter.unusedSectionVars false
namespace Go.Proofs.YtpbhfckefmboaaaGreatDoor.Ba
open Go Go.RowKit Go.Lib Go.Base
theorem sx7 {W : World} {X : Nat} {l : Lg} {s : Sp} (h : W.heap[X]? = some (.cells (spC l s) 26 (0, 0))) : W.cell? ⟨X, 0, none⟩ = some (.int .i64 l.base) ∧ W.cell? ⟨X, 1, none⟩ = some (.int .i64 l.term) ∧ W.cell? ⟨X, 2, none⟩ = some (.int .i64 l.mtu) ∧ W.cell? ⟨X, 3, none⟩ = some (.int .i64 l.subs) ∧ W.cell? ⟨X, 4, none⟩ = some (.int .i32 l.ini) ∧ W.cell? ⟨X, 5, none⟩ = some (.int .i32 l.ses) ∧ W.cell? ⟨X, 6, none⟩ = some (.int .i32 l.str) := by
  obtain ⟨c0, c1, c2, c3, c4, c5, c6, -⟩ := blk14 h
  exact ⟨c0, c1, c2, c3, c4, c5, c6⟩
theorem Lg.ok.words {l : Lg} (h : l.ok) : ∃ nw : Nat, 1 ≤ nw ∧ nw ≤ 16384 ∧ 8 * (nw : Int) = l.base + 3 * l.term + 128 := by
  obtain ⟨hT, -, -, -, h1, h2, h3, h4, h5⟩ := h
  have ht : l.term % 8 = 0 ∧ 256 ≤ l.term ∧ l.term ≤ 8192 := by rcases hT with h | h | h | h | h | h <;> omega
  exact ⟨((l.base + 3 * l.term + 128) / 8).toNat, by omega, by omega, by omega⟩
theorem al_cells {W : World} {n0 : Nat} {v : Value} {Ms : List (TypeId × Value)} (h : W.ownsRow n0 118 1 v Ms.length (Ms.map ifV)) : ∃ ga cap, v = .slice ga Ms.length cap ∧ ∀ j m, Ms[j]? = some m → ∃ gb go, ga = some ⟨gb, go, none⟩ ∧ gb < W.heap.size ∧ W.cell? ⟨gb, go + j, none⟩ = some (.iface m.1 m.2) := by
  obtain ⟨hl, h2⟩ := h
  rcases h2 with ⟨rfl, hn⟩ | ⟨g, cap, cur, rfl, hb, ho, hn, hm, hs, ht⟩
  · refine ⟨none, 0, by rw [hn], fun j m hj => ?_⟩
    have := (List.getElem?_eq_some_iff.1 hj).1
    omega
  · refine ⟨_, cap, rfl, fun j m hj => ⟨g, 0, rfl, (Array.getElem?_eq_some_iff.1 ho).1, ?_⟩⟩
    have hi := (List.getElem?_eq_some_iff.1 hj).1
    have h5 : (cur.toList.take (Ms.length * 1))[j]? = (Ms.map ifV)[j]? := by rw [ht]
    rw [List.getElem?_take, if_pos (by omega), Array.getElem?_toList, List.getElem?_map, hj] at h5
    simp only [World.cell?, ho, Nat.zero_add]
    exact h5
/-- what stands when a fabric's actors are made -/
structure FinS (w : World) (X F : Nat) (l : Lg) (s : Sp) (wat av : Value) (Ms : List (TypeId × Value)) (W : World) : Prop where
  bl : Below X w W
  XF : X < F
  sx : W.heap[X]? = some (.cells (spC l s) 26 (0, 0))
  fx : ∃ C, W.heap[F]? = some (.cells C 89 (0, 0)) ∧ C.size = 20 ∧ C[18]? = some wat
  al : W.ownsRow (F + 1) 118 1 av Ms.length (Ms.map ifV)
theorem FinS.lt {w W : World} {X F : Nat} {l : Lg} {s : Sp} {wat av : Value} {Ms : List (TypeId × Value)} (h : FinS w X F l s wat av Ms W) : X < W.heap.size ∧ F < W.heap.size := by
  obtain ⟨C, h1, -⟩ := h.fx
  exact ⟨(Array.getElem?_eq_some_iff.1 h.sx).1, (Array.getElem?_eq_some_iff.1 h1).1⟩
theorem FinS.below {w W W' : World} {X F : Nat} {l : Lg} {s : Sp} {wat av : Value} {Ms : List (TypeId × Value)} (h : FinS w X F l s wat av Ms W) (hb : Below W.heap.size W W') : FinS w X F l s wat av Ms W' := by
  have hl := h.lt
  obtain ⟨C, h1, h2⟩ := h.fx
  exact ⟨h.bl.trans (hb.mono (by omega)), h.XF, (hb.block X hl.1).trans h.sx, ⟨C, (hb.block F hl.2).trans h1, h2⟩, own_at h.al fun g hg => hb.block g (h.al.lt g hg).2⟩
theorem FinS.grow {w W W' : World} {X F : Nat} {l : Lg} {s : Sp} {wat av av' : Value} {Ms Ms' : List (TypeId × Value)} (h : FinS w X F l s wat av Ms W) (hg : W.grownBy W' av.ownBlock) (ho : W'.ownsRow (F + 1) 118 1 av' (Ms ++ Ms').length ((Ms ++ Ms').map ifV)) : FinS w X F l s wat av' (Ms ++ Ms') W' := by
  have hl := h.lt
  have XF := h.XF
  obtain ⟨C, h1, h2⟩ := h.fx
  exact ⟨h.bl.grown hg (by omega) fun g hgo => by have := (h.al.lt g hgo).1; omega, h.XF, (hg.block X hl.1 (fun e => own_neT h.al h.sx (by decide) e.symm)).trans h.sx, ⟨C, (hg.block F hl.2 (fun e => own_neT h.al h1 (by decide) e.symm)).trans h1, h2⟩, ho⟩
theorem NwS.fin {w0 w : World} {X F P k1 k2 : Nat} {l : Lg} {s : Sp} {wv rv av wat : Value} {Ms : List (TypeId × Value)} (h : NwS w0 X X F P l s k1 k2 wv rv av Ms w) : FinS w0 X F l s wat av Ms (w.setCell ⟨F, 18, none⟩ wat) :=
  ⟨below_set h.bl (by have := h.XF; omega), h.XF, (set_other (by have := h.XF; omega)).trans h.sx, ⟨_, set7 h.fx 18 wat, by simp [fabC], by simp [fabC]⟩, own_at h.al fun g hg => set_other (by have := (h.al.lt g hg).1; omega)⟩
theorem FinS.cells {w W : World} {X F : Nat} {l : Lg} {s : Sp} {wat av : Value} {Ms : List (TypeId × Value)} (h : FinS w X F l s wat av Ms W) : W.cell? ⟨X, 0, none⟩ = some (.int .i64 l.base) ∧ W.cell? ⟨X, 1, none⟩ = some (.int .i64 l.term) ∧ W.cell? ⟨X, 2, none⟩ = some (.int .i64 l.mtu) ∧ W.cell? ⟨X, 3, none⟩ = some (.int .i64 l.subs) ∧ W.cell? ⟨X, 4, none⟩ = some (.int .i32 l.ini) ∧ W.cell? ⟨X, 5, none⟩ = some (.int .i32 l.ses) ∧ W.cell? ⟨X, 6, none⟩ = some (.int .i32 l.str) ∧ W.cell? ⟨X, 11, none⟩ = some (.int .i64 s.cleans) ∧ W.cell? ⟨F, 18, none⟩ = some wat := by
  obtain ⟨c0, c1, c2, c3, c4, c5, c6, -, -, -, -, c11, -, -⟩ := blk14 h.sx
  obtain ⟨C, h1, h2, h3⟩ := h.fx
  exact ⟨c0, c1, c2, c3, c4, c5, c6, c11, cells_at h1 h3⟩
set_option maxHeartbeats 6400000 in
set_option maxRecDepth 100000 in
theorem wnew_ok {w : World} {l : Lg} {s : Sp} (hl : l.ok) (hz : spErr l s = 0) (hwr : WrsC w l s) (hn : s.wn ≤ 8) :
    Calls Tryz.prog 8 #[.agg (spC l s)] w fun e w' => ∃ F, e = .returned (.tuple #[.pointer (some ⟨F, 0, none⟩), .int .i64 0]) ∧ Below w.heap.size w w' := by
  obtain ⟨nw, n1, n2, hnw⟩ := hl.words
  have hb := hl.bounds
  have cC := fun W => wcheck_any (w := W) (l := l) (s := s) hl.wf
  have cZ := fun W => sizeL_any l hl W
  have cN := fun W => new_any l hl W
  rw [hz] at cC
  have kw : IntKind.i64.wrap (l.base + (3 * l.term + 128)) = 8 * (nw : Int) := by rw [wrap_small _ (by omega) (by omega)]; omega
  have hst := stos_ok hl hnw
  have cB := fun W => bnew_any n1 n2 W
  rw [hnw] at cB
  unfold Lg.val at cZ cN
  unfold spC at cC ⊢
  obtain ⟨X, hX⟩ : ∃ X, w.heap.size = X := ⟨_, rfl⟩
  obtain ⟨V1, hV1⟩ : ∃ V, w.alloc (.cells #[.int .i64 l.base, .int .i64 l.term, .int .i64 l.mtu, .int .i64 l.subs, .int .i32 l.ini, .int .i32 l.ses, .int .i32 l.str, .slice s.wa s.wn s.wc, .int .i64 s.tries, .int .i64 s.polls, .int .i64 s.most, .int .i64 s.cleans, .int .i64 s.timeout, .int .i64 s.looks] 26) = V := ⟨_, rfl⟩
  obtain ⟨b1, r1, s1⟩ := at_new hV1
  rw [hX] at r1 s1 b1
  obtain ⟨c0, c1, c2, c3, c4, c5, c6, c7, c8, c9, c10, c11, c12, c13⟩ := blk14 r1
  have H := Lib.hid (And.intro b1 (And.intro (show V1.heap[X]? = some (.cells (spC l s) 26 (0, 0)) from r1) (And.intro cZ (And.intro cN (And.intro hst (And.intro hwr cB))))))
  obtain ⟨wa, hwa0⟩ : ∃ wa, s.wa = wa := ⟨_, rfl⟩
  rw [hwa0] at hV1 cC ⊢
  rw [hwa0] at c7
  have HW0 := Lib.hid hwa0
  clear b1 r1 cZ cN hst hwr hz cB hwa0
  go_enter Tryz.func8, Tryz.ntmps8
  go_wp2_with (go_at_call 26; refine (cC _).mono ?_; rintro e w2 ⟨rfl, hB⟩; have k2 := (hB.block X (by omega)).trans H.out.2.1; have HS2 := sx7 k2; have H2 := Lib.hid (And.intro (H.out.1.trans (hB.mono (by omega))) (And.intro k2 (show X < w2.heap.size from Nat.lt_of_lt_of_le (by omega) hB.size))); clear hB k2)
  clear c0 c1 c2 c3 c4 c5 c6 c7 c8 c9 c10 c11 c12 c13 cC hV1 s1
  go_region_held3 (fun W => W.cell? ⟨X, 0, none⟩ = some (.int .i64 l.base) ∧ W.cell? ⟨X, 1, none⟩ = some (.int .i64 l.term) ∧ W.cell? ⟨X, 2, none⟩ = some (.int .i64 l.mtu) ∧ W.cell? ⟨X, 3, none⟩ = some (.int .i64 l.subs) ∧ W.cell? ⟨X, 4, none⟩ = some (.int .i32 l.ini) ∧ W.cell? ⟨X, 5, none⟩ = some (.int .i32 l.ses) ∧ W.cell? ⟨X, 6, none⟩ = some (.int .i32 l.str))
    (first | exact HS4.out | exact HS3.out | exact HS2)
    (first
    | (go_at_call 28
       refine (H.out.2.2.1 _).mono ?_
       rintro e w3 ⟨rfl, hB⟩
       have b3 : Below w2.heap.size w2 w3 := (Below.refl w2.heap.size w2).drew.trans hB
       have k3 := (b3.block X H2.out.2.2).trans H2.out.2.1
       have H3 := Lib.hid (And.intro (H2.out.1.trans (b3.mono (by have := H2.out.2.2; omega))) (And.intro k3 (show X < w3.heap.size from Nat.lt_of_lt_of_le H2.out.2.2 b3.size)))
       have HS3 := Lib.hid (sx7 k3)
       clear b3 k3 hB)
    | (go_at_call 27
       refine (H.out.2.2.2.2.2.2 _).mono ?_
       rintro e w4 ⟨P, Wb, rfl, hB, hP, hWb, hBuf⟩
       have k4 := (hB.block X H3.out.2.2).trans H3.out.2.1
       have H4 := Lib.hid (And.intro (H3.out.1.trans (hB.mono (by have := H3.out.2.2; omega))) (And.intro k4 (And.intro hB (And.intro hP (And.intro hWb hBuf)))))
       have HS4 := Lib.hid (sx7 k4)
       clear k4 hB hP hWb hBuf))
  go_wp2_with (first
    | (go_at_call 30
       refine (H.out.2.2.2.1 _).mono ?_
       rintro e w5 ⟨I, rfl, hB, hI, hIn⟩
       obtain ⟨g, hg⟩ : ∃ g, w5.heap.size = g := ⟨_, rfl⟩
       obtain ⟨V6, hV6⟩ : ∃ V, w5.alloc (.cells #[.iface 82 (.pointer (some ⟨I, 0, none⟩))] 118) = V := ⟨_, rfl⟩
       obtain ⟨b6, r6, s6⟩ := at_new hV6
       have hBf := (H4.out.2.2.2.2.2.below hB).below b6
       have z4 := H4.out.2.2.1.size
       have pP := H4.out.2.2.2.2.2.pl
       have pW := H4.out.2.2.2.2.2.wl
       have hI6 := hIn.below b6
       have hIl := hIn.lt
       have b36 : Below w3.heap.size w3 V6 := H4.out.2.2.1.trans ((hB.mono z4).trans (b6.mono (by have := hB.size; omega)))
       rw [hg] at r6 s6
       have H6 := Lib.hid (And.intro b36 (And.intro hBf (And.intro hI6 (And.intro r6 (And.intro (show g < V6.heap.size by omega) (And.intro (show P < I by omega) (And.intro (show Wb < I by omega) (show I < V6.heap.size by omega))))))))
       clear hB hI hIn b6 r6 s6 hBf z4 pP pW hI6 hIl b36)
    | (go_at_call 29
       refine (snew_any (Ms := [(82, .pointer (some ⟨I, 0, none⟩))]) (by simp) (fun j m hj => ⟨g, 0, rfl, H6.out.2.2.2.2.1, by rcases j with _ | j; (simp at hj; subst hj; simp [World.cell?, H6.out.2.2.2.1]); simp at hj⟩)).mono ?_
       rintro e w7 ⟨S, As, rfl, hB, hS, hW7, hA7⟩
       obtain ⟨a, hR⟩ := rob_of (H6.out.1.trans (hB.mono H6.out.1.size)) H4.out.2.2.2.1 H4.out.2.2.2.2.1 (H6.out.2.1.below hB) hW7 hA7 (H6.out.2.2.1.below hB) H6.out.2.2.2.2.2.1 H6.out.2.2.2.2.2.2.1 (by have := H6.out.2.2.2.2.2.2.2; omega)
       have H7 := Lib.hid (robin_init hR H.out.2.2.2.2.1 (by rw [stos_len]; omega))
       clear hR hB hS hW7 hA7)
    | (go_at_call 31
       refine H7.out.mono ?_
       rintro e w8 ⟨⟨v8, rfl⟩, k8, hR8⟩
       have kX8 := (hR8.bl.block X H3.out.2.2).trans H3.out.2.1
       have H8 := Lib.hid (And.intro (H3.out.1.trans (hR8.bl.mono (by have := H3.out.2.2; omega))) (And.intro kX8 hR8))
       obtain ⟨c0, c1, c2, c3, c4, c5, c6, c7, c8, c9, c10, c11, c12, c13⟩ := blk14 kX8
       rw [HW0.out] at c7
       obtain ⟨F, hF⟩ : ∃ F, w8.heap.size = F := ⟨_, rfl⟩
       obtain ⟨V9, hV9⟩ : ∃ V, w8.alloc (.cells (fabC l s P (.pointer none) (.slice none 0 0) (.slice none 0 0) (.pointer none) 0) 89) = V := ⟨_, rfl⟩
       obtain ⟨b9, r9, s9⟩ := at_new hV9
       rw [hF] at r9 s9
       have kX9 := (b9.block X (Array.getElem?_eq_some_iff.1 kX8).1).trans kX8
       have c97 : V9.cell? ⟨X, 7, none⟩ = some (.slice wa s.wn s.wc) := HW0.out ▸ (by simp [World.cell?, kX9])
       have HN := Lib.hid (show NwS w X X F P l s 0 0 (.slice none 0 0) (.slice none 0 0) (.slice none 0 0) [] V9 from ⟨H8.out.1.trans (b9.mono (by have := (Array.getElem?_eq_some_iff.1 kX8).1; omega)), Nat.le_refl _, by have := (Array.getElem?_eq_some_iff.1 kX8).1; omega, kX9, r9, ⟨[], World.ownsRow_nil _ _ _ _⟩, ⟨[], World.ownsRow_nil _ _ _ _⟩, World.ownsRow_nil _ _ _ _⟩)
       unfold fabC at hV9
       rw [HW0.out] at hV9
       clear hR8 kX8 kX9 b9 r9 s9))
  clear c0 c1 c2 c3 c4 c5 c6 c7 c8 c9 c10 c11 c12 c13 H2 H3 H4 H6 H7 H8 HS2 HS3 HS4 hV6 hg hV9 hF c97
  go_loopw [8, 48] (fun av ii wr => ∃ i : Nat, ii = .int .i64 (i : Int) ∧ i ≤ s.wn ∧ ∃ wv Ms, Hid (NwS w X X F P l s i 0 wv (.slice none 0 0) av Ms wr ∧ Ms.length = i)) (fun _ ii _ => ((100 : Int) - intOf ii).toNat)
  case atStart => exact ⟨0, rfl, Nat.zero_le _, .slice none 0 0, [], Lib.hid ⟨HN.out, rfl⟩⟩
  case round =>
    obtain ⟨i, rfl, hi, wv, Ms, HS⟩ := hrel
    obtain ⟨c0, c1, c2, c3, c4, c5, c6, c7, c8, c9, c10, c11, c12, c13⟩ := blk14 HS.out.1.sx
    by_cases hlt : i < s.wn
    · obtain ⟨gb, go, la, m, lc, hwa, hgb, cj, cW⟩ := H.out.2.2.2.2.2.1 i hlt
      obtain rfl : wa = some ⟨gb, go, none⟩ := HW0.out.symm.trans hwa
      clear hwa
      obtain ⟨i1, hi1, hz10, hz11, hz12⟩ := info_parts info_wrt
      obtain ⟨i2, hi2, hz20, hz21, hz22⟩ := info_parts info_mac
      have kj : wr.cell? ⟨gb, go + i, none⟩ = some (.slice la m lc) := (HS.out.1.bl.cell (p := ⟨gb, go + i, none⟩) (hX ▸ hgb)).trans cj
      obtain ⟨ws, hw⟩ := HS.out.1.wr
      obtain ⟨va, vn, vc, rfl⟩ := own_slc hw
      obtain ⟨aa, an, ac, rfl⟩ := own_slc HS.out.1.al
      have h0 : (0 : Int) ≤ (i : Int) := by omega
      have h1 : (i : Int) < (s.wn : Int) := by omega
      have qi : IntKind.i64.wrap ((i : Int) + 1) = (i : Int) + 1 := wrap_small _ (by omega) (by omega)
      have cW2 := cW wr (hX.symm ▸ HS.out.1.bl)
      unfold Lg.val at cW2
      have HC := Lib.hid cW2
      clear cW2 cW cj hgb hw hi
      go_wp2_with (first
        | (go_at_call 32
           refine HC.out.mono ?_
           rintro e w10 ⟨b, rfl, hB⟩
           have hN := HS.out.1.below hB
           obtain ⟨Y, hY⟩ : ∃ Y, w10.heap.size = Y := ⟨_, rfl⟩
           obtain ⟨V11, hV11⟩ : ∃ V, w10.alloc (.cells #[.pointer (some ⟨b, 0, none⟩)] 90) = V := ⟨_, rfl⟩
           obtain ⟨b11, r11, s11⟩ := at_new hV11
           have HY := Lib.hid (show V11.heap[Y]? = some (.cells #[.pointer (some ⟨b, 0, none⟩)] 90) from hY ▸ r11)
           have k16 : w10.cell? ⟨F, 16, none⟩ = some (.slice va vn vc) := cells_at hN.fx rfl
           have hN1 := hN.below b11
           have k161 : V11.cell? ⟨F, 16, none⟩ = some (.slice va vn vc) := cells_at hN1.fx rfl
           have HN1 := Lib.hid (And.intro hN1 (And.intro r11 s11))
           clear hB hN hN1 b11 r11 s11)
        | (at_builtin
           obtain ⟨ws1, hw1⟩ := HN1.out.1.wr
           refine wpList_append_own _ rfl _ _ 85 rfl (F + 1) 90 i1 _ 1 8 Tryz.underlying85 hi1 hz10 hz11 hz12 rfl (by decide) _ i _ rfl hw1 ⟨Y, 0, none⟩ 1 1 [.pointer (some ⟨b, 0, none⟩)] rfl rfl ?k1 ?k2 ?k3 ?k4 ?k5 ?_))
      case k1 =>
        intro j u hj
        rw [Addr.add_lit, Nat.zero_add]
        have hjl := (List.getElem?_eq_some_iff.1 hj).1
        obtain rfl : j = 0 := by simpa using hjl
        simp only [World.cell?, HY.out]
        exact hj
      case k2 => intro u hu; cases List.mem_singleton.1 hu; rfl
      case k3 => unfold maxLen; omega
      case k4 => omega
      case k5 => have := HN1.out.1.lt.2; omega
      intro v' w12 hown hgrow _
      obtain ⟨vb, vm, vd, rfl⟩ := own_slc hown
      have hN2 := HN1.out.1.addW hgrow hown
      have k12 := (hgrow.block F HN1.out.1.lt.2 (fun e => own_neT hw1 HN1.out.1.fx (by decide) e.symm)).trans HN1.out.1.fx
      have k162 : w12.cell? ⟨F, 16, none⟩ = some (.slice va vn vc) := cells_at k12 rfl
      have z162 : w12.frozen? ⟨F, 16, none⟩ = false := cells_fr k12 (o := 16) (by simp [fabC])
      obtain ⟨V13, hV13⟩ : ∃ V, w12.setCell ⟨F, 16, none⟩ (.slice vb vm vd) = V := ⟨_, rfl⟩
      rw [hV13] at hN2
      obtain ⟨Z, hZ⟩ : ∃ Z, V13.heap.size = Z := ⟨_, rfl⟩
      obtain ⟨V14, hV14⟩ : ∃ V, V13.alloc (.cells #[.iface 90 (.pointer (some ⟨b, 0, none⟩))] 118) = V := ⟨_, rfl⟩
      obtain ⟨b14, r14, s14⟩ := at_new hV14
      have HZ := Lib.hid (And.intro (hN2.below b14) (show V14.heap[Z]? = some (.cells #[.iface 90 (.pointer (some ⟨b, 0, none⟩))] 118) from hZ ▸ r14))
      clear hN2 hown hgrow k12 b14 r14 s14 hw1 k16 k161
      go_wp2_with (first
        | (at_builtin
           refine wpList_append_own _ rfl _ _ 84 rfl (F + 1) 118 i2 _ 1 16 Tryz.underlying84 hi2 hz20 hz21 hz22 rfl (by decide) _ Ms.length _ rfl HZ.out.1.al ⟨Z, 0, none⟩ 1 1 [.iface 90 (.pointer (some ⟨b, 0, none⟩))] rfl rfl ?k1 ?k2 ?k3 ?k4 ?k5 ?_))
      case k1 =>
        intro j u hj
        rw [Addr.add_lit, Nat.zero_add]
        have hjl := (List.getElem?_eq_some_iff.1 hj).1
        obtain rfl : j = 0 := by simpa using hjl
        simp only [World.cell?, HZ.out.2]
        exact hj
      case k2 => intro u hu; cases List.mem_singleton.1 hu; rfl
      case k3 => have := HS.out.2; unfold maxLen; omega
      case k4 => have := HS.out.2; omega
      case k5 => have := HZ.out.1.lt.2; omega
      intro v'' w15 hown2 hgrow2 _
      obtain ⟨ab, am, ad, rfl⟩ := own_slc hown2
      have hN3 := HZ.out.1.addM (Ms' := [(90, .pointer (some ⟨b, 0, none⟩))]) hgrow2 (by simpa [ifV] using hown2)
      have HN3 := Lib.hid (And.intro hN3 (show (Ms ++ [((90 : TypeId), (Value.pointer (some ⟨b, 0, none⟩) : Value))]).length = i + 1 by simp [HS.out.2]))
      clear hN3 hown2 hgrow2
      go_wp2_with fail
      go_roundw
      case measure => simp [intOf]; omega
      case rel => exact ⟨i + 1, by simp, by omega, _, _, HN3⟩
    · have hin : i = s.wn := by omega
      subst hin
      clear hlt hi
      obtain ⟨aa, an, ac, rfl⟩ := own_slc HS.out.1.al
      go_wp2_with fail
      have HS0 := Lib.hid HS.out
      clear HS c0 c1 c2 c3 c4 c5 c6 c7 c8 c9 c10 c11 c12 c13 HN
      go_loopw [8, 77] (fun av ii wr => ∃ i : Nat, ii = .int .i64 (i : Int) ∧ (i : Int) ≤ l.subs ∧ ∃ rv Ms, Hid (NwS w X X F P l s s.wn i wv rv av Ms wr ∧ Ms.length = s.wn + i)) (fun _ ii _ => ((100 : Int) - intOf ii).toNat)
      case atStart => exact ⟨0, rfl, by omega, .slice none 0 0, Ms, Lib.hid HS0.out⟩
      case round =>
        clear HS0
        obtain ⟨i, rfl, hi, rv, Ms, HS⟩ := hrel
        obtain ⟨c0, c1, c2, c3, c4, c5, c6, c7, c8, c9, c10, c11, c12, c13⟩ := blk14 HS.out.1.sx
        by_cases hlt : (i : Int) < l.subs
        · obtain ⟨i1, hi1, hz10, hz11, hz12⟩ := info_parts info_rdr
          obtain ⟨i2, hi2, hz20, hz21, hz22⟩ := info_parts info_mac
          obtain ⟨rs, hw⟩ := HS.out.1.rr
          obtain ⟨va, vn, vc, rfl⟩ := own_slc hw
          obtain ⟨aa, an, ac, rfl⟩ := own_slc HS.out.1.al
          have h0 : (0 : Int) ≤ (i : Int) := by omega
          have qi : IntKind.i64.wrap ((i : Int) + 1) = (i : Int) + 1 := wrap_small _ (by omega) (by omega)
          have cW2 := read_any (w := wr) hl (sub := (i : Int)) (polls := s.polls) (most := s.most) ⟨h0, hlt⟩
          unfold Lg.val at cW2
          have HC := Lib.hid cW2
          clear cW2 hw
          go_wp2_with (first
            | (go_at_call 33
               refine HC.out.mono ?_
               rintro e w10 ⟨b, rfl, hB, -⟩
               have hN := HS.out.1.below hB
               obtain ⟨Y, hY⟩ : ∃ Y, w10.heap.size = Y := ⟨_, rfl⟩
               obtain ⟨V11, hV11⟩ : ∃ V, w10.alloc (.cells #[.pointer (some ⟨b, 0, none⟩)] 92) = V := ⟨_, rfl⟩
               obtain ⟨b11, r11, s11⟩ := at_new hV11
               have HY := Lib.hid (show V11.heap[Y]? = some (.cells #[.pointer (some ⟨b, 0, none⟩)] 92) from hY ▸ r11)
               have k16 : w10.cell? ⟨F, 17, none⟩ = some (.slice va vn vc) := cells_at hN.fx rfl
               have hN1 := hN.below b11
               have k161 : V11.cell? ⟨F, 17, none⟩ = some (.slice va vn vc) := cells_at hN1.fx rfl
               have HN1 := Lib.hid (And.intro hN1 (And.intro r11 s11))
               clear hB hN hN1 b11 r11 s11)
            | (at_builtin
               obtain ⟨ws1, hw1⟩ := HN1.out.1.rr
               refine wpList_append_own _ rfl _ _ 86 rfl (F + 1) 92 i1 _ 1 8 Tryz.underlying86 hi1 hz10 hz11 hz12 rfl (by decide) _ i _ rfl hw1 ⟨Y, 0, none⟩ 1 1 [.pointer (some ⟨b, 0, none⟩)] rfl rfl ?k1 ?k2 ?k3 ?k4 ?k5 ?_))
          case k1 =>
            intro j u hj
            rw [Addr.add_lit, Nat.zero_add]
            have hjl := (List.getElem?_eq_some_iff.1 hj).1
            obtain rfl : j = 0 := by simpa using hjl
            simp only [World.cell?, HY.out]
            exact hj
          case k2 => intro u hu; cases List.mem_singleton.1 hu; rfl
          case k3 => unfold maxLen; omega
          case k4 => omega
          case k5 => have := HN1.out.1.lt.2; omega
          intro v' w12 hown hgrow _
          obtain ⟨vb, vm, vd, rfl⟩ := own_slc hown
          have hN2 := HN1.out.1.addR hgrow hown
          have k12 := (hgrow.block F HN1.out.1.lt.2 (fun e => own_neT hw1 HN1.out.1.fx (by decide) e.symm)).trans HN1.out.1.fx
          have k162 : w12.cell? ⟨F, 17, none⟩ = some (.slice va vn vc) := cells_at k12 rfl
          have z162 : w12.frozen? ⟨F, 17, none⟩ = false := cells_fr k12 (o := 17) (by simp [fabC])
          obtain ⟨V13, hV13⟩ : ∃ V, w12.setCell ⟨F, 17, none⟩ (.slice vb vm vd) = V := ⟨_, rfl⟩
          rw [hV13] at hN2
          obtain ⟨Z, hZ⟩ : ∃ Z, V13.heap.size = Z := ⟨_, rfl⟩
          obtain ⟨V14, hV14⟩ : ∃ V, V13.alloc (.cells #[.iface 92 (.pointer (some ⟨b, 0, none⟩))] 118) = V := ⟨_, rfl⟩
          obtain ⟨b14, r14, s14⟩ := at_new hV14
          have HZ := Lib.hid (And.intro (hN2.below b14) (show V14.heap[Z]? = some (.cells #[.iface 92 (.pointer (some ⟨b, 0, none⟩))] 118) from hZ ▸ r14))
          clear hN2 hown hgrow k12 b14 r14 s14 hw1 k16 k161
          go_wp2_with (first
            | (at_builtin
               refine wpList_append_own _ rfl _ _ 84 rfl (F + 1) 118 i2 _ 1 16 Tryz.underlying84 hi2 hz20 hz21 hz22 rfl (by decide) _ Ms.length _ rfl HZ.out.1.al ⟨Z, 0, none⟩ 1 1 [.iface 92 (.pointer (some ⟨b, 0, none⟩))] rfl rfl ?k1 ?k2 ?k3 ?k4 ?k5 ?_))
          case k1 =>
            intro j u hj
            rw [Addr.add_lit, Nat.zero_add]
            have hjl := (List.getElem?_eq_some_iff.1 hj).1
            obtain rfl : j = 0 := by simpa using hjl
            simp only [World.cell?, HZ.out.2]
            exact hj
          case k2 => intro u hu; cases List.mem_singleton.1 hu; rfl
          case k3 => have := HS.out.2; unfold maxLen; omega
          case k4 => have := HS.out.2; omega
          case k5 => have := HZ.out.1.lt.2; omega
          intro v'' w15 hown2 hgrow2 _
          obtain ⟨ab, am, ad, rfl⟩ := own_slc hown2
          have hN3 := HZ.out.1.addM (Ms' := [(92, .pointer (some ⟨b, 0, none⟩))]) hgrow2 (by simpa [ifV] using hown2)
          have HN3 := Lib.hid (And.intro hN3 (show (Ms ++ [((92 : TypeId), (Value.pointer (some ⟨b, 0, none⟩) : Value))]).length = s.wn + (i + 1) by simp [HS.out.2]; omega))
          clear hN3 hown2 hgrow2
          go_wp2_with fail
          go_roundw
          case measure => simp [intOf]; omega
          case rel => exact ⟨i + 1, by simp, by omega, _, _, HN3⟩
        · have cWt := watch_any (w := wr) hl (timeout := s.timeout) (looks := s.looks)
          unfold Lg.val at cWt
          obtain ⟨aa, an, ac, rfl⟩ := own_slc HS.out.1.al
          obtain ⟨i2, hi2, hz20, hz21, hz22⟩ := info_parts info_mac
          have HC := Lib.hid cWt
          have hMs : Ms.length ≤ 100 := by have := HS.out.2; omega
          clear cWt hi
          go_wp2_with (go_at_call 34
                       refine HC.out.mono ?_
                       rintro e w20 ⟨wt, rfl, hB, -⟩
                       have hN := HS.out.1.below hB
                       have k18 : w20.cell? ⟨F, 18, none⟩ = some (.pointer none) := cells_at hN.fx rfl
                       have z18 : w20.frozen? ⟨F, 18, none⟩ = false := cells_fr hN.fx (o := 18) (by simp [fabC])
                       have hFn := hN.fin (wat := .pointer (some ⟨wt, 0, none⟩))
                       obtain ⟨V21, hV21⟩ : ∃ V, w20.setCell ⟨F, 18, none⟩ (.pointer (some ⟨wt, 0, none⟩)) = V := ⟨_, rfl⟩
                       rw [hV21] at hFn
                       have HF := Lib.hid hFn
                       have HS21 := hFn.cells
                       clear hB hN hFn)
          have cKp := fun W => keep_any (w := W) hl (cleans := s.cleans)
          unfold Lg.val at cKp
          have HK := Lib.hid cKp
          clear cKp k18 z18 hV21
          clear c0 c1 c2 c3 c4 c5 c6 c7 c8 c9 c10 c11 c12 c13
          go_region_held3 (fun W => W.cell? ⟨X, 0, none⟩ = some (.int .i64 l.base) ∧ W.cell? ⟨X, 1, none⟩ = some (.int .i64 l.term) ∧ W.cell? ⟨X, 2, none⟩ = some (.int .i64 l.mtu) ∧ W.cell? ⟨X, 3, none⟩ = some (.int .i64 l.subs) ∧ W.cell? ⟨X, 4, none⟩ = some (.int .i32 l.ini) ∧ W.cell? ⟨X, 5, none⟩ = some (.int .i32 l.ses) ∧ W.cell? ⟨X, 6, none⟩ = some (.int .i32 l.str) ∧ W.cell? ⟨X, 11, none⟩ = some (.int .i64 s.cleans) ∧ W.cell? ⟨F, 18, none⟩ = some (.pointer (some ⟨wt, 0, none⟩)))
            (first | exact HS25.out | exact HS23.out | exact HS22.out | exact HS21)
            (first
            | (go_at_call 35
               refine (HK.out _).mono ?_
               rintro e w22 ⟨kp, rfl, hB, -⟩
               have hF2 := HF.out.below (show Below V21.heap.size V21 w22 from (Below.refl V21.heap.size V21).drew.trans hB)
               obtain ⟨Z, hZ⟩ : ∃ Z, w22.heap.size = Z := ⟨_, rfl⟩
               obtain ⟨V23, hV23⟩ : ∃ V, w22.alloc (.cells #[.iface 95 (.pointer (some ⟨kp, 0, none⟩)), .iface 87 (.pointer (some ⟨wt, 0, none⟩))] 118) = V := ⟨_, rfl⟩
               obtain ⟨b23, r23, s23⟩ := at_new hV23
               have hF3 := hF2.below b23
               have HZ := Lib.hid (And.intro hF3 (show V23.heap[Z]? = some (.cells #[.iface 95 (.pointer (some ⟨kp, 0, none⟩)), .iface 87 (.pointer (some ⟨wt, 0, none⟩))] 118) from hZ ▸ r23))
               have HS22 := Lib.hid hF2.cells
               have HS23 := Lib.hid hF3.cells
               clear hB hF2 hF3 b23 r23 s23)
            | (refine step_append_own rfl (.tmp 114) (.tmp 126) 84 rfl (F + 1) 118 i2 _ 1 16 Tryz.underlying84 hi2 hz20 hz21 hz22 rfl (by decide) (.slice aa an ac) Ms.length (Ms.map ifV) (by simp [Act.eval, Act.put]) HZ.out.1.al ⟨Z, 0, none⟩ 2 2 [.iface 95 (.pointer (some ⟨kp, 0, none⟩)), .iface 87 (.pointer (some ⟨wt, 0, none⟩))] (by simp [Act.eval, Act.put]) rfl (by
                 intro j z hj
                 rw [Addr.add_lit, Nat.zero_add]
                 simpa [World.cell?, HZ.out.2] using hj) (by intro z hz; simp at hz; rcases hz with rfl | rfl <;> rfl) (by unfold maxLen; omega) (by omega) (by have := HZ.out.1.lt.2; omega) ?_
               intro v25 w25 q1 q2 q3
               obtain ⟨ab, am, ad, rfl⟩ := own_slc q1
               have hF5 := HZ.out.1.grow (Ms' := [(95, .pointer (some ⟨kp, 0, none⟩)), (87, .pointer (some ⟨wt, 0, none⟩))]) q2 (by simpa [ifV] using q1)
               have HF5 := Lib.hid hF5
               have HS25 := Lib.hid hF5.cells
               clear q1 q2 q3 hF5))
          all_goals (
            obtain ⟨ga, cp, eV, hcells⟩ := al_cells HF5.out.al
            injection eV with q1 q2 q3
            subst q1 q2 q3
            have cS := snew_any (P := P) (ga := ab) (cap := ad) (Ms := Ms ++ [(95, .pointer (some ⟨kp, 0, none⟩)), (87, .pointer (some ⟨wt, 0, none⟩))]) (by have := HS.out.2; simp; omega) hcells
            rw [show (Ms ++ [((95 : TypeId), (Value.pointer (some ⟨kp, 0, none⟩) : Value)), (87, .pointer (some ⟨wt, 0, none⟩))]).length = Ms.length + 2 by simp] at cS
            have HCC := Lib.hid cS
            clear cS hcells hMs HS21 HS22 HS23 HS25 HF HZ HK HC
            go_wp2_with (go_at_call 29
                         refine HCC.out.mono ?_
                         rintro e w26 ⟨S2, As2, rfl, hB, -⟩
                         have hF6 := HF5.out.below hB
                         obtain ⟨C6, h61, h62, h63⟩ := hF6.fx
                         obtain ⟨x15, y15⟩ := arr_some (C := C6) (o := 15) (by omega)
                         obtain ⟨x19, y19⟩ := arr_some (C := C6) (o := 19) (by omega)
                         have k15 := cells_at h61 y15
                         have k19 := cells_at h61 y19
                         have z15 := cells_fr h61 (o := 15) (by omega)
                         have z19 := cells_fr h61 (o := 19) (by omega)
                         have HE := Lib.hid (And.intro hF6.bl hF6.XF)
                         clear hB hF6 h61 h62 h63 y15 y19)
            refine bodyPost_ret (v := .tuple #[.pointer (some ⟨F, 0, none⟩), .int .i64 0]) (by simp [results, Tryz.results8, go_sem]) rfl ⟨F, rfl, ?_⟩
            first
              | exact below_set (below_set HE.out.1 (Nat.le_of_lt HE.out.2)) (Nat.le_of_lt HE.out.2)
              | (rw [hX]; exact below_set (below_set HE.out.1 (Nat.le_of_lt HE.out.2)) (Nat.le_of_lt HE.out.2)))
end Go.Proofs.YtpbhfckefmboaaaGreatDoor.Ba
