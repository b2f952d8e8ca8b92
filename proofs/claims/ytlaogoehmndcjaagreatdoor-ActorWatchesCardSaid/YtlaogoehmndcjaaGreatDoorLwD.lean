/- The law of watchers, walked. -/
import Derived.Test.YtlaogoehmndcjaaGreatDoorLwX
import Derived.Test.YtlaogoehmndcjaaGreatDoorFix
import Derived.Test.YtlaogoehmndcjaaGreatDoorLwS
import Derived.OwnWalk
set_option linter.unusedVariables false
namespace Go.Proofs.YtlaogoehmndcjaaGreatDoor.Sy
open Go Go.RowKit Go.Lib Go.Base Go.Pr Go.Proofs.YtlaogoehmndcjaaGreatDoor.Ba
theorem LS.tps {l : Lg} {timeout times now : Int} {pa po : Nat} {V : Nat → Int} {L : List Tld} {W0 W : World} {cv : Value} (h : LS l timeout times W0.heap.size pa po now V L W0 W cv) {ga : Option Addr} {n : Nat} (cap : Nat) (hT : Told W0 ga n V) (hL : L.length ≤ n) (hn : n ≤ 90) : TpS (W.alloc (.cells (tapeC (.slice ga L.length cap) 0 0 0 0 0 0 false) 36)) W.heap.size ga cap L 0 none := by
  have hb : Below W0.heap.size W0 (W.alloc (.cells (tapeC (.slice ga L.length cap) 0 0 0 0 0 0 false) 36)) := h.bl.alloc h.rs.n0 _
  refine ⟨heap_new _ _, fun j x hj => ?_, by omega⟩
  have hjl : j < L.length := (List.getElem?_eq_some_iff.1 hj).1
  obtain ⟨hv, -⟩ := h.lv.vs j x hj
  obtain ⟨hV, gb, go, dn, ba, bn, bc, e, h0, h1, h2⟩ := hT j (by omega)
  rw [hv]
  have hg : gb < W0.heap.size := World.block_lt_of_cell? W0 _ h0
  have hge := h.rs.n0
  exact ⟨hV, gb, go, dn, ba, bn, bc, e, by omega, cell_below hb (Nat.le_refl _) h0, cell_below hb (Nat.le_refl _) h1, cell_below hb (Nat.le_refl _) h2⟩
theorem LS.clr {l : Lg} {timeout times now : Int} {n0 pa po : Nat} {V : Nat → Int} {L : List Tld} {W0 W : World} {ca : Option Addr} {cc : Nat} (h : LS l timeout times n0 pa po now V L W0 W (.slice ca L.length cc)) (o : Obj) : ClR (W.alloc o) W.heap.size ca L := by
  intro j x hj
  obtain ⟨-, hn⟩ := h.lv.vs j x hj
  obtain ⟨g, cap, e, hb, hlt, hc⟩ := owns_cells h.own (j := j) (u := .int .i64 x.now) (by simp [clk, hj])
  injection e with e1 e2 e3
  exact ⟨hn, g, 0, e1, by omega, by rw [World.cell?_alloc_lt _ _ _ hlt]; exact hc⟩
theorem LS.start {l : Lg} {timeout times : Int} {V : Nat → Int} {W2 W3 : World} {τ : Nat → Nat × Nat} {O : Nat → Prop} (hR : Rep l timeout 0 0 (treeOf l timeout times) W3 τ O) (hF : Fr (fun _ => False) O W2 W3) : LS l timeout times W2.heap.size (τ 0).1 ((τ 0).2 + 0) 0 V [] W2 W3 (.slice none 0 0) := by
  have hO : ∀ b, (O b ∧ b < W3.heap.size) → W2.heap.size ≤ b ∧ b < W3.heap.size ∧ ¬ some b = (Value.slice none 0 0).ownBlock := fun b hb => ⟨by
    rcases hF.new b hb.1 with h | h
    · exact h.elim
    · exact h, hb.2, fun h => by cases h⟩
  exact ⟨⟨⟨τ, _, rfl, rfl, by rw [Pr.run_nil]; exact hR.move (W' := W3) (fun _ _ _ => rfl), hO⟩, hF.size, fun b h => by cases h⟩, ⟨hF.os, hF.tape, hF.output, hF.size, fun b hb => hF.block b hb (fun h => h)⟩, World.ownsRow_nil _ _ _ _, ⟨fun j x h => by cases h⟩⟩
theorem HK_below {w w' : World} {tb : Nat} {ga : Option Addr} {cap : Nat} {L : List Tld} {a : Nat} {want : Option Acc} (h : TpK w w' tb ga cap L a want) (hs : w.heap.size = tb + 1) : Below tb w w' := ⟨h.2.os, h.2.tape, h.2.output, h.2.size, fun b hb => h.2.block b (by omega) (by omega)⟩
/-- what is wanted, in letters -/
theorem want_letters (p : Pr Tld WO) : ∃ (k a m v u : Int) (en : Bool), (∀ s b, tapeW s b p.want = tapeC s b k a m v u en) ∧ nextV p = .tuple #[.agg #[.int .i64 k, .int .i64 a, .int .i64 m, .int .u64 v, .int .u64 u, .slice none 0 0], .bool en] := by
  unfold nextV
  rcases p.want with _ | a
  · exact ⟨0, 0, 0, 0, 0, false, fun _ _ => rfl, rfl⟩
  · exact ⟨a.k, a.at_, a.n, a.v, a.w, true, fun _ _ => rfl, rfl⟩
theorem obs_letters (l : Lg) (timeout times : Int) (L : List Tld) : ∃ x y z : Int, ((treeOf l timeout times).run L).obs = (x, y, z) ∧ 0 ≤ z := by
  refine ⟨_, _, _, rfl, ?_⟩
  refine allO_run (P := upW) L _ ?_
  unfold treeOf
  split
  · rename_i h
    have hb := h.bounds
    exact watchT_up (Lgn l) ⟨by show 256 ≤ l.term; omega, by show l.term ≤ 8192; omega⟩ timeout _ _
  · exact Int.le_refl 0
theorem Tryz_info2 : (Tryz.prog.info? 2).map (fun i => (i.zero, i.size, i.bytes)) = some (some (.int .i64 0), 1, 8) := by kernel_rfl
set_option maxRecDepth 1000000 in
set_option maxHeartbeats 3200000 in
theorem law_go (l : Lg) (hw : l.wf) (hi : I32s l) (timeout times : Int) (hto : -1099511627776 ≤ timeout ∧ timeout ≤ 1099511627776) (hti : 0 ≤ times ∧ times ≤ 255) (ga : Option Addr) (n cap : Nat) (hn : n ≤ 90) (hcap : n ≤ cap) (ka : Option Addr) (kn kc : Nat) (V : Nat → Int) (w : World) (hTab : TabAt 0 Lib.deBruijn64tab w) (hTold : Told w ga n V) (hTick : Ticks w ka kn) :
    Calls Tryz.prog 4 #[l.val, .int .i64 timeout, .int .u8 times, .slice ga n cap, .slice ka kn kc] w fun e w' => e = .returned (.bool true) ∧ Below w.heap.size w w' := by
  obtain ⟨i0, hi2, iz0, iz1, iz2⟩ := info_parts Tryz_info2
  have cR := fun (W : World) (hT : TabAt 0 Lib.deBruijn64tab W) => rep_new l hw timeout times hti W hT
  have c16 := fun (W : World) (tb : Nat) (ga ca : Option Addr) (cap cc : Nat) (L : List Tld) (h : TpS W tb ga cap L 0 none) (hc : ClR W tb ca L) => watchR l hw hi timeout times hto ⟨hti.1, by omega⟩ W tb ga ca cap cc L h hc
  obtain ⟨lv, hlv⟩ : ∃ lv, l.val = lv := ⟨_, rfl⟩
  obtain ⟨base, term, mtu, subs, ini, ses, str⟩ := l
  obtain ⟨l, hl⟩ : ∃ l : Lg, (⟨base, term, mtu, subs, ini, ses, str⟩ : Lg) = l := ⟨_, rfl⟩
  have hlv2 : lv = .agg #[.int .i64 base, .int .i64 term, .int .i64 mtu, .int .i64 subs, .int .i32 ini, .int .i32 ses, .int .i32 str] := by rw [← hlv]; rfl
  rw [hlv] at cR c16 ⊢
  rw [hl] at cR c16
  subst hlv2
  obtain ⟨X, hX⟩ : ∃ X, w.heap.size = X := ⟨_, rfl⟩
  obtain ⟨W1, hW1⟩ : ∃ W1, w.alloc (.cells #[.int .i64 base, .int .i64 term, .int .i64 mtu, .int .i64 subs, .int .i32 ini, .int .i32 ses, .int .i32 str] 23) = W1 := ⟨_, rfl⟩
  have hs1 : W1.heap.size = X + 1 := by rw [← hW1, ← hX]; simp
  have b1 : Below X w W1 := by rw [← hW1, ← hX]; exact (Below.refl _ _).alloc (Nat.le_refl _) _
  have r1 : W1.heap[X]? = some (.cells #[.int .i64 base, .int .i64 term, .int .i64 mtu, .int .i64 subs, .int .i32 ini, .int .i32 ses, .int .i32 str] 23) := by rw [← hW1, ← hX]; exact heap_new _ _
  have hX1 : 1 ≤ X := by rw [← hX]; exact heap_one hTab
  have hT1 : TabAt 0 Lib.deBruijn64tab W1 := tabB hTab (b1.mono hX1)
  have cF := fixed W1 hT1
  have hq1 : ¬ (n : Int) > 90 := by omega
  have hq2 : ¬ timeout < -1099511627776 := by omega
  have hq3 : ¬ timeout > 1099511627776 := by omega
  have hu1 : IntKind.i64.wrap times = times := by rw [IntKind.wrap_i64]; omega
  have H0 := Lib.hid (And.intro b1 (And.intro r1 (And.intro hX1 (And.intro hT1 (And.intro hTold (And.intro hTick (And.intro cR c16)))))))
  clear b1 r1 hX1 hT1 hTold hTick cR c16 hw hi hTab hlv
  go_enter Tryz.func4, Tryz.ntmps4
  go_wp2_with (first
    | (go_at_call 5; refine cF.mono ?_; clear cF; rintro e W2 ⟨rfl, hB⟩; have HB2 := Lib.hid hB; clear hB; have hx2 := (HB2.out.block X (by omega)).trans H0.out.2.1; obtain ⟨m0, m1, m2, m3, m4, m5, m6⟩ := blk7 hx2; clear hx2)
    | (go_at_call 15; refine (H0.out.2.2.2.2.2.2.1 W2 (tabB H0.out.2.2.2.1 (HB2.out.mono (by have := H0.out.2.2.1; omega)))).mono ?_; rintro e W3 ⟨τ, O, rfl, hR, hF⟩; obtain ⟨pa, hpa⟩ : ∃ x, (τ 0).1 = x := ⟨_, rfl⟩; obtain ⟨po, hpo⟩ : ∃ x, (τ 0).2 + 0 = x := ⟨_, rfl⟩; have HS := Lib.hid (LS.start (V := V) hR hF); rw [hpa, hpo] at HS ⊢; clear hR hF hpa hpo))
  have hT2 := tabB H0.out.2.2.2.1 (HB2.out.mono (by have := H0.out.2.2.1; omega))
  have HT2 := Lib.hid (And.intro hT2 (heap_one hT2))
  clear hT2 m0 m1 m2 m3 m4 m5 m6
  go_loopw [12, 13, 14] (fun nw cl ii wr => ∃ (now : Int) (L : List Tld), nw = .int .i64 now ∧ ii = .int .i64 (L.length : Int) ∧ L.length ≤ n ∧ (0 ≤ now ∧ now ≤ 1099511627776 * (L.length : Int)) ∧ Hid (LS l timeout times W2.heap.size pa po now V L W2 wr cl)) (fun _ _ ii _ => ((n : Int) + 1 - intOf ii).toNat)
  case atStart => exact ⟨0, [], rfl, rfl, Nat.zero_le _, by simp, HS⟩
  case round =>
    obtain ⟨now, L, rfl, rfl, hLn, hnow, H⟩ := hrel
    clear HS
    obtain ⟨ca, cc, rfl⟩ := owns_slice H.out.own
    obtain ⟨ak, aa, am, av, au, en, hw1, hw2⟩ := want_letters ((treeOf l timeout times).run L)
    obtain ⟨x0, y0, z0, hobs, hz0⟩ := obs_letters l timeout times L
    obtain ⟨Y, hY⟩ : ∃ Y, wr.heap.size = Y := ⟨_, rfl⟩
    obtain ⟨W4, hW4⟩ : ∃ W4, wr.alloc (.cells #[.slice ga L.length cap, .int .i64 0, .int .i64 0, .int .i64 0, .int .i64 0, .int .u64 0, .int .u64 0, .slice none 0 0, .bool false] 36) = W4 := ⟨_, rfl⟩
    have hb4 : Below Y wr W4 := by rw [← hW4, ← hY]; exact (Below.refl _ _).alloc (Nat.le_refl _) _
    have c16 := H0.out.2.2.2.2.2.2.2 W4 Y ga ca cap cc L (by have h1 := H.out.tps cap (fun j hj => by
      obtain ⟨q1, gb, go, dn, ba, bn, bc, q2, q3, q4, q5⟩ := H0.out.2.2.2.2.1 j hj
      have hbb := H0.out.1.trans (HB2.out.mono (by omega : X ≤ W1.heap.size))
      have hlt : gb < X := by rw [← hX]; exact World.block_lt_of_cell? w _ q3
      exact ⟨q1, gb, go, dn, ba, bn, bc, q2, (hbb.cell (p := ⟨gb, _, none⟩) hlt).trans q3, (hbb.cell (p := ⟨gb, _, none⟩) hlt).trans q4, (hbb.cell (p := ⟨gb, _, none⟩) hlt).trans q5⟩) hLn hn; unfold tapeC at h1; rwa [hW4, hY] at h1) (by have h1 := H.out.clr (.cells #[.slice ga L.length cap, .int .i64 0, .int .i64 0, .int .i64 0, .int .i64 0, .int .u64 0, .int .u64 0, .slice none 0 0, .bool false] 36); rwa [hW4, hY] at h1)
    rw [hobs] at c16
    dsimp only at c16
    have hx4 : W4.heap[X]? = some (.cells #[.int .i64 base, .int .i64 term, .int .i64 mtu, .int .i64 subs, .int .i32 ini, .int .i32 ses, .int .i32 str] 23) := by
      have h1 := (HB2.out.block X (by omega)).trans H0.out.2.1
      have hX2 : X < W2.heap.size := (Array.getElem?_eq_some_iff.1 h1).1
      have h2 := (H.out.bl.block X hX2).trans h1
      exact (hb4.block X (by have := H.out.rs.n0; omega)).trans h2
    obtain ⟨m0, m1, m2, m3, m4, m5, m6⟩ := blk7 hx4
    have hs4 : W4.heap.size = Y + 1 := by rw [← hW4, ← hY]; simp
    have HE := Lib.hid (And.intro hb4 (And.intro hw1 (And.intro hw2 hobs)))
    clear hb4 hw1 hw2 hobs hx4
    by_cases hz : z0 > 0
    · have hmv : mendV (x0, y0, z0) = .tuple #[.int .i64 y0, .int .i64 z0, .bool true] := if_pos hz
      go_wp2_with (first
        | (go_at_call 16; refine c16.mono ?_; clear c16; rintro e v16 ⟨x, y, z, rfl, ⟨rfl, rfl, hy⟩, bt, hK⟩
           obtain rfl := hy hz
           have HP := Lib.hid (show PS l timeout times W2.heap.size pa po now V L W2 v16 (.slice ca L.length cc) Y Y (.cells (tapeC (.slice ga L.length cap) bt ak aa am av au en) 36) (.cells (tapeC (.slice ga L.length cap) bt ak aa am av au en) 36) from hY ▸ H.out.tape (HE.out.1.trans (HK_below hK hs4) |> fun h => hY ▸ h) (hY ▸ HE.out.2.1 _ _ ▸ hK.1.blk))
           clear hK m0 m1 m2 m3 m4 m5 m6)
        | (go_at_call 17; have c := HP.out.next HT2.out.1 HT2.out.2; rw [HE.out.2.2.1] at c; refine c.mono ?_; clear c; rintro e v17 ⟨rfl, hP⟩; replace HP := Lib.hid hP; clear hP; obtain ⟨A, hA⟩ : ∃ A, v17.heap.size = A := ⟨_, rfl⟩)
        | (go_at_call 18; have hP2 := HP.out.new (.cells #[.int .i64 ak, .int .i64 aa, .int .i64 am, .int .u64 av, .int .u64 au, .slice none 0 0] 34); rw [hA] at hP2; have c := hP2.mend HT2.out.1 HT2.out.2; rw [HE.out.2.2.2, hmv] at c; refine c.mono ?_; clear c hP2; rintro e v18 ⟨rfl, hP⟩; replace HP := Lib.hid hP; clear hP))
      refine only_of ?_
      refine regionA l timeout times now W2.heap.size pa po V L W2 v18 (.slice ca L.length cc) (.slice ga L.length cap) Y A bt ak aa am av au en x y z HT2.out.1 HT2.out.2 hz (by rw [HE.out.2.2.2]) HP _ (fun wc hP => ?_)
      replace HP := Lib.hid hP
      clear hP
      by_cases hfin : L.length = n
      · subst hfin
        go_wp2
        go_ret
        exact ⟨rfl, hX ▸ (H0.out.1.trans (HB2.out.mono (by omega))).trans (HP.out.bl.mono (Nat.le_trans (by omega) HB2.out.size))⟩
      · have hfin1 : ((L.length : Int) == (n : Int)) = false := by simp; omega
        have q1 : IntKind.i64.wrap (L.length : Int) = (L.length : Int) := by rw [IntKind.wrap_i64]; omega
        have q2 : (0 : Int) ≤ (L.length : Int) := by omega
        have q3 : (L.length : Int) < (n : Int) := by omega
        have q4 : ¬ (L.length : Int) ≥ (n : Int) := by omega
        have q5 : IntKind.i64.wrap ((L.length : Int) + 1) = (L.length : Int) + 1 := by rw [IntKind.wrap_i64]; omega
        by_cases hk : L.length < kn
        · have hk1 : (L.length : Int) < (kn : Int) := by omega
          have hk2 : ¬ (L.length : Int) ≥ (kn : Int) := by omega
          obtain ⟨t, kb, ko, rfl, hkc⟩ := H0.out.2.2.2.2.2.1 L.length hk
          have hkc2 := cell_below (H0.out.1.trans ((HB2.out.mono (by omega : X ≤ W1.heap.size)).trans (HP.out.bl.mono (Nat.le_trans (by omega) HB2.out.size)))) (by omega) hkc
          clear hkc
          by_cases ht0 : t < 0
          · go_wp2
            go_ret
            exact ⟨rfl, hX ▸ (H0.out.1.trans (HB2.out.mono (by omega))).trans (HP.out.bl.mono (Nat.le_trans (by omega) HB2.out.size))⟩
          · by_cases ht1 : t > 1099511627776
            · go_wp2
              go_ret
              exact ⟨rfl, hX ▸ (H0.out.1.trans (HB2.out.mono (by omega))).trans (HP.out.bl.mono (Nat.le_trans (by omega) HB2.out.size))⟩
            · obtain ⟨nw, hnw⟩ : ∃ nw, now + t = nw := ⟨_, rfl⟩
              have hnw1 : IntKind.i64.wrap (now + t) = nw := by rw [IntKind.wrap_i64]; omega
              have hnw2 : 0 ≤ nw ∧ nw ≤ 1099511627776 * ((L.length : Int) + 1) := by omega
              go_wp2_with (first
                | (go_at_call 20; refine (HP.out.tick HT2.out.1 HT2.out.2 nw (by omega)).mono ?_; rintro e v20 ⟨rfl, hP⟩; replace HP := Lib.hid hP; clear hP hkc2)
                | (at_builtin; (refine wpList_append_at _ rfl _ _ 53 rfl W2.heap.size 2 i0 _ 1 8 Tryz.underlying53 hi2 iz0 iz1 iz2 rfl (by decide) _ _ _ rfl (HP.out.own.alloc _) ⟨v20.heap.size, 0, none⟩ 1 1 [.int .i64 nw] rfl rfl ?k1 ?k2 ?k3 ?k4 ?k5 ?_)))
              case k1 =>
                intro j u hj
                rcases j with _ | j
                · injection hj with hj; subst hj; rw [show (⟨v20.heap.size, 0, none⟩ : Addr).add 0 = ⟨v20.heap.size, 0, none⟩ from Addr.add_lit _ _ _, World.cell?_alloc_at _ _ _ _ rfl]; rfl
                · cases hj
              case k2 => first | rfl | (intro u hu; simp at hu; subst hu; rfl)
              case k3 => unfold maxLen; omega
              case k4 => omega
              case k5 => have := HP.out.rs.n0; simp; omega
              intro v' w1 hown' hgrow hv'
              have HQ := Lib.hid (HP.out.app hown' hgrow (by first | exact hv' | simpa using hv'))
              obtain ⟨hV, gb, gof, dn, ba, bn, bc, rfl, h0, h1, h2⟩ := H0.out.2.2.2.2.1 L.length (by omega)
              have hbl := H0.out.1.trans ((HB2.out.mono (by omega : X ≤ W1.heap.size)).trans (HQ.out.bl.mono (Nat.le_trans (by omega) HB2.out.size)))
              have h0' := cell_below hbl (by omega) h0
              have h1' := cell_below hbl (by omega) h1
              have h2' := cell_below hbl (by omega) h2
              clear hown' hgrow hv' h0 h1 h2 hbl
              go_wp2_with (first
                | (go_at_call 21; refine (HQ.out.take HT2.out.1 HT2.out.2 (by omega) (by omega) hV dn ba bn bc).mono ?_; rintro e v21 ⟨rfl, hL⟩; have HLn := Lib.hid hL; clear hL))
              exact ⟨⟨nw, L ++ [⟨V L.length, nw⟩], rfl, by simp, by simp; omega, by simp; omega, HLn⟩, by simp [intOf]; omega⟩
        · have hk1 : ¬ (L.length : Int) < (kn : Int) := by omega
          have hnw2 : 0 ≤ now ∧ now ≤ 1099511627776 * ((L.length : Int) + 1) := by omega
          go_wp2_with (first
            | (at_builtin; (refine wpList_append_at _ rfl _ _ 53 rfl W2.heap.size 2 i0 _ 1 8 Tryz.underlying53 hi2 iz0 iz1 iz2 rfl (by decide) _ _ _ rfl (HP.out.own.alloc _) ⟨wc.heap.size, 0, none⟩ 1 1 [.int .i64 now] rfl rfl ?m1 ?m2 ?m3 ?m4 ?m5 ?_)))
          case m2 => first | rfl | (intro u hu; simp at hu; subst hu; rfl)
          case m3 => unfold maxLen; omega
          case m4 => omega
          case m5 => have := HP.out.rs.n0; simp; omega
          intro v' w1 hown' hgrow hv'
          have HQ := Lib.hid (HP.out.app hown' hgrow (by first | exact hv' | simpa using hv'))
          obtain ⟨hV, gb, gof, dn, ba, bn, bc, rfl, h0, h1, h2⟩ := H0.out.2.2.2.2.1 L.length (by omega)
          have hbl := H0.out.1.trans ((HB2.out.mono (by omega : X ≤ W1.heap.size)).trans (HQ.out.bl.mono (Nat.le_trans (by omega) HB2.out.size)))
          have h0' := cell_below hbl (by omega) h0
          have h1' := cell_below hbl (by omega) h1
          have h2' := cell_below hbl (by omega) h2
          clear hown' hgrow hv' h0 h1 h2 hbl
          go_wp2_with (first
            | (go_at_call 21; refine (HQ.out.take HT2.out.1 HT2.out.2 (by omega) (by omega) hV dn ba bn bc).mono ?_; rintro e v21 ⟨rfl, hL⟩; have HLn := Lib.hid hL; clear hL))
          exact ⟨⟨now, L ++ [⟨V L.length, now⟩], rfl, by simp, by simp; omega, by simp; omega, HLn⟩, by simp [intOf]; omega⟩
    · obtain rfl : z0 = 0 := by omega
      have hmv : mendV (x0, y0, 0) = .tuple #[.int .i64 0, .int .i64 0, .bool false] := if_neg (by omega)
      go_wp2_with (first
        | (go_at_call 16; refine c16.mono ?_; clear c16; rintro e v16 ⟨x, y, z, rfl, ⟨rfl, rfl, hy⟩, bt, hK⟩
           have HP := Lib.hid (show PS l timeout times W2.heap.size pa po now V L W2 v16 (.slice ca L.length cc) Y Y (.cells (tapeC (.slice ga L.length cap) bt ak aa am av au en) 36) (.cells (tapeC (.slice ga L.length cap) bt ak aa am av au en) 36) from hY ▸ H.out.tape (HE.out.1.trans (HK_below hK hs4) |> fun h => hY ▸ h) (hY ▸ HE.out.2.1 _ _ ▸ hK.1.blk))
           clear hK m0 m1 m2 m3 m4 m5 m6)
        | (go_at_call 17; have c := HP.out.next HT2.out.1 HT2.out.2; rw [HE.out.2.2.1] at c; refine c.mono ?_; clear c; rintro e v17 ⟨rfl, hP⟩; replace HP := Lib.hid hP; clear hP; obtain ⟨A, hA⟩ : ∃ A, v17.heap.size = A := ⟨_, rfl⟩)
        | (go_at_call 18; have hP2 := HP.out.new (.cells #[.int .i64 ak, .int .i64 aa, .int .i64 am, .int .u64 av, .int .u64 au, .slice none 0 0] 34); rw [hA] at hP2; have c := hP2.mend HT2.out.1 HT2.out.2; rw [HE.out.2.2.2, hmv] at c; refine c.mono ?_; clear c hP2; rintro e v18 ⟨rfl, hP⟩; replace HP := Lib.hid hP; clear hP))
      refine only_of ?_
      refine regionB l timeout times now W2.heap.size pa po V L W2 v18 (.slice ca L.length cc) (.slice ga L.length cap) Y A bt ak aa am av au en x y 0 HT2.out.1 HT2.out.2 trivial (by rw [HE.out.2.2.2]) HP _ (fun wc hP => ?_)
      replace HP := Lib.hid hP
      clear hP
      by_cases hfin : L.length = n
      · subst hfin
        go_wp2
        go_ret
        exact ⟨rfl, hX ▸ (H0.out.1.trans (HB2.out.mono (by omega))).trans (HP.out.bl.mono (Nat.le_trans (by omega) HB2.out.size))⟩
      · have hfin1 : ((L.length : Int) == (n : Int)) = false := by simp; omega
        have q1 : IntKind.i64.wrap (L.length : Int) = (L.length : Int) := by rw [IntKind.wrap_i64]; omega
        have q2 : (0 : Int) ≤ (L.length : Int) := by omega
        have q3 : (L.length : Int) < (n : Int) := by omega
        have q4 : ¬ (L.length : Int) ≥ (n : Int) := by omega
        have q5 : IntKind.i64.wrap ((L.length : Int) + 1) = (L.length : Int) + 1 := by rw [IntKind.wrap_i64]; omega
        by_cases hk : L.length < kn
        · have hk1 : (L.length : Int) < (kn : Int) := by omega
          have hk2 : ¬ (L.length : Int) ≥ (kn : Int) := by omega
          obtain ⟨t, kb, ko, rfl, hkc⟩ := H0.out.2.2.2.2.2.1 L.length hk
          have hkc2 := cell_below (H0.out.1.trans ((HB2.out.mono (by omega : X ≤ W1.heap.size)).trans (HP.out.bl.mono (Nat.le_trans (by omega) HB2.out.size)))) (by omega) hkc
          clear hkc
          by_cases ht0 : t < 0
          · go_wp2
            go_ret
            exact ⟨rfl, hX ▸ (H0.out.1.trans (HB2.out.mono (by omega))).trans (HP.out.bl.mono (Nat.le_trans (by omega) HB2.out.size))⟩
          · by_cases ht1 : t > 1099511627776
            · go_wp2
              go_ret
              exact ⟨rfl, hX ▸ (H0.out.1.trans (HB2.out.mono (by omega))).trans (HP.out.bl.mono (Nat.le_trans (by omega) HB2.out.size))⟩
            · obtain ⟨nw, hnw⟩ : ∃ nw, now + t = nw := ⟨_, rfl⟩
              have hnw1 : IntKind.i64.wrap (now + t) = nw := by rw [IntKind.wrap_i64]; omega
              have hnw2 : 0 ≤ nw ∧ nw ≤ 1099511627776 * ((L.length : Int) + 1) := by omega
              go_wp2_with (first
                | (go_at_call 20; refine (HP.out.tick HT2.out.1 HT2.out.2 nw (by omega)).mono ?_; rintro e v20 ⟨rfl, hP⟩; replace HP := Lib.hid hP; clear hP hkc2)
                | (at_builtin; (refine wpList_append_at _ rfl _ _ 53 rfl W2.heap.size 2 i0 _ 1 8 Tryz.underlying53 hi2 iz0 iz1 iz2 rfl (by decide) _ _ _ rfl (HP.out.own.alloc _) ⟨v20.heap.size, 0, none⟩ 1 1 [.int .i64 nw] rfl rfl ?n1 ?n2 ?n3 ?n4 ?n5 ?_)))
              case n1 =>
                intro j u hj
                rcases j with _ | j
                · injection hj with hj; subst hj; rw [show (⟨v20.heap.size, 0, none⟩ : Addr).add 0 = ⟨v20.heap.size, 0, none⟩ from Addr.add_lit _ _ _, World.cell?_alloc_at _ _ _ _ rfl]; rfl
                · cases hj
              case n2 => first | rfl | (intro u hu; simp at hu; subst hu; rfl)
              case n3 => unfold maxLen; omega
              case n4 => omega
              case n5 => have := HP.out.rs.n0; simp; omega
              intro v' w1 hown' hgrow hv'
              have HQ := Lib.hid (HP.out.app hown' hgrow (by first | exact hv' | simpa using hv'))
              obtain ⟨hV, gb, gof, dn, ba, bn, bc, rfl, h0, h1, h2⟩ := H0.out.2.2.2.2.1 L.length (by omega)
              have hbl := H0.out.1.trans ((HB2.out.mono (by omega : X ≤ W1.heap.size)).trans (HQ.out.bl.mono (Nat.le_trans (by omega) HB2.out.size)))
              have h0' := cell_below hbl (by omega) h0
              have h1' := cell_below hbl (by omega) h1
              have h2' := cell_below hbl (by omega) h2
              clear hown' hgrow hv' h0 h1 h2 hbl
              go_wp2_with (first
                | (go_at_call 21; refine (HQ.out.take HT2.out.1 HT2.out.2 (by omega) (by omega) hV dn ba bn bc).mono ?_; rintro e v21 ⟨rfl, hL⟩; have HLn := Lib.hid hL; clear hL))
              exact ⟨⟨nw, L ++ [⟨V L.length, nw⟩], rfl, by simp, by simp; omega, by simp; omega, HLn⟩, by simp [intOf]; omega⟩
        · have hk1 : ¬ (L.length : Int) < (kn : Int) := by omega
          have hnw2 : 0 ≤ now ∧ now ≤ 1099511627776 * ((L.length : Int) + 1) := by omega
          go_wp2_with (first
            | (at_builtin; (refine wpList_append_at _ rfl _ _ 53 rfl W2.heap.size 2 i0 _ 1 8 Tryz.underlying53 hi2 iz0 iz1 iz2 rfl (by decide) _ _ _ rfl (HP.out.own.alloc _) ⟨wc.heap.size, 0, none⟩ 1 1 [.int .i64 now] rfl rfl ?p1 ?p2 ?p3 ?p4 ?p5 ?_)))
          case p2 => first | rfl | (intro u hu; simp at hu; subst hu; rfl)
          case p3 => unfold maxLen; omega
          case p4 => omega
          case p5 => have := HP.out.rs.n0; simp; omega
          intro v' w1 hown' hgrow hv'
          have HQ := Lib.hid (HP.out.app hown' hgrow (by first | exact hv' | simpa using hv'))
          obtain ⟨hV, gb, gof, dn, ba, bn, bc, rfl, h0, h1, h2⟩ := H0.out.2.2.2.2.1 L.length (by omega)
          have hbl := H0.out.1.trans ((HB2.out.mono (by omega : X ≤ W1.heap.size)).trans (HQ.out.bl.mono (Nat.le_trans (by omega) HB2.out.size)))
          have h0' := cell_below hbl (by omega) h0
          have h1' := cell_below hbl (by omega) h1
          have h2' := cell_below hbl (by omega) h2
          clear hown' hgrow hv' h0 h1 h2 hbl
          go_wp2_with (first
            | (go_at_call 21; refine (HQ.out.take HT2.out.1 HT2.out.2 (by omega) (by omega) hV dn ba bn bc).mono ?_; rintro e v21 ⟨rfl, hL⟩; have HLn := Lib.hid hL; clear hL))
          exact ⟨⟨now, L ++ [⟨V L.length, now⟩], rfl, by simp, by simp; omega, by simp; omega, HLn⟩, by simp [intOf]; omega⟩
end Go.Proofs.YtlaogoehmndcjaaGreatDoor.Sy
