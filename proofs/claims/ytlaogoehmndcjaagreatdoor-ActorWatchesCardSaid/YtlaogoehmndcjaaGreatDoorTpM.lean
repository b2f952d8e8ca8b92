/- The document's Watch over a tape: what stands. -/
import Derived.Test.YtlaogoehmndcjaaGreatDoorTpL
import Derived.Test.YtlaogoehmndcjaaGreatDoorPlA
set_option linter.unusedVariables false
namespace Go.Proofs.YtlaogoehmndcjaaGreatDoor.Sy
open Go Go.RowKit Go.Lib Go.Base Go.Pr Go.Proofs.YtlaogoehmndcjaaGreatDoor.Ba
/-- the clocks, each as it was when its answer was told -/
def ClR (w : World) (tb : Nat) (ca : Option Addr) (L : List Tld) : Prop := ∀ (j : Nat) (x : Tld), L[j]? = some x → (0 ≤ x.now ∧ x.now ≤ 1125899906842624) ∧ ∃ cb co, ca = some ⟨cb, co, none⟩ ∧ cb ≠ tb ∧ w.cell? ⟨cb, co + j, none⟩ = some (.int .i64 x.now)
theorem ClR.only {w w' : World} {tb : Nat} {ca : Option Addr} {L : List Tld} (h : ClR w tb ca L) (ho : Only tb w w') : ClR w' tb ca L := by
  intro j x hj
  obtain ⟨hv, cb, co, e, hne, h0⟩ := h j x hj
  exact ⟨hv, cb, co, e, hne, ho.cell hne h0⟩
structure WB (w wr : World) (X : Nat) (base term mtu subs ini ses str : Int) (tb : Nat) (ga : Option Addr) (cap : Nat) (L : List Tld) (b : Nat) (want : Option Acc) (ca : Option Addr) : Prop where
  ub : UB w wr X base term mtu subs ini ses str tb ga cap L b want
  clk : ClR wr tb ca L
section
variable {w wr wr' : World} {X : Nat} {base term mtu subs ini ses str : Int} {tb : Nat} {ga : Option Addr} {cap : Nat} {L : List Tld} {b b' : Nat} {want want' : Option Acc} {ca : Option Addr}
theorem WB.below (h : WB w wr X base term mtu subs ini ses str tb ga cap L b want ca) (hb : Below wr.heap.size wr wr') : WB w wr' X base term mtu subs ini ses str tb ga cap L b want ca := ⟨h.ub.below hb, h.clk.only (Only.of_below hb)⟩
theorem WB.step (h : WB w wr X base term mtu subs ini ses str tb ga cap L b want ca) (hk : TpK wr wr' tb ga cap L b' want') : WB w wr' X base term mtu subs ini ses str tb ga cap L b' want' ca := ⟨h.ub.step hk, h.clk.only hk.2⟩
theorem WB.at (h : WB w wr X base term mtu subs ini ses str tb ga cap L b none ca) : wr.cell? ⟨tb, 1, none⟩ = some (.int .i64 (b : Int)) := by
  have := h.ub.tp.1.blk
  unfold tapeW tapeC at this
  exact (blk9 this).2.1
end
/-- what a run tells, and what Watch answers -/
def watV (q : Pr Tld WO) (v : Value) : Prop := ∃ x y z : Int, v = .tuple #[.int .i64 x, .int .i64 y, .int .i64 z] ∧ x = q.obs.1 ∧ z = q.obs.2.2 ∧ (z > 0 → y = q.obs.2.1)
set_option maxRecDepth 1000000 in
set_option maxHeartbeats 3200000 in
theorem watch_any (base term mtu subs ini ses str : Int) (hl : LogOk base term mtu subs) (hni : -2147483648 ≤ ini ∧ ini < 2147483648) (hns : -2147483648 ≤ ses ∧ ses < 2147483648) (hnt : -2147483648 ≤ str ∧ str < 2147483648) (timeout times : Int) (hto : -1099511627776 ≤ timeout ∧ timeout ≤ 1099511627776) (hti : 0 ≤ times ∧ times ≤ 65536) (w : World) (tb : Nat) (ga ca : Option Addr) (cap cc : Nat) (L : List Tld) (h : TpS w tb ga cap L 0 none) (hc : ClR w tb ca L) :
    Calls Tryz.prog 16 #[.pointer (some ⟨tb, 0, none⟩), .slice ca L.length cc, .agg #[.int .i64 base, .int .i64 term, .int .i64 mtu, .int .i64 subs, .int .i32 ini, .int .i32 ses, .int .i32 str], .int .i64 timeout, .int .i64 times] w fun e w' => ∃ v, e = .returned v ∧ watV ((watchT ⟨base, term, mtu, subs, ini, ses, str⟩ timeout times.toNat ⟨0, 0, 0, false⟩).run L) v ∧ TpK w w' tb ga cap L (L.length - ((watchT ⟨base, term, mtu, subs, ini, ses, str⟩ timeout times.toNat ⟨0, 0, 0, false⟩).left L).length) ((watchT ⟨base, term, mtu, subs, ini, ses, str⟩ timeout times.toNat ⟨0, 0, 0, false⟩).run L).want := by
  have hb : 256 ≤ term ∧ term ≤ 8192 ∧ 0 ≤ base ∧ base ≤ 131072 := by obtain ⟨h1, h2⟩ := hl; rcases h1 with h1 | h1 | h1 | h1 | h1 | h1 <;> omega
  have hb2 : 0 ≤ mtu ∧ mtu ≤ 100000 ∧ 1 ≤ subs ∧ subs ≤ 8 := by obtain ⟨h1, h2⟩ := hl; omega
  have c38 := fun W => rightR_any ⟨base, term, mtu, subs, ini, ses, str⟩ ⟨by show _ ≤ base; omega, by show base ≤ _; omega, by show _ ≤ term; omega, by show term ≤ _; omega, by show _ ≤ mtu; omega, by show mtu ≤ _; omega, by show _ ≤ subs; omega, by show subs ≤ _; omega⟩ W
  have c40 := fun W => mR_any ⟨base, term, mtu, subs, ini, ses, str⟩ hl W
  unfold Lg.val at c38 c40
  dsimp only at c38 c40
  rw [decide_eq_true (show Lg.ok ⟨base, term, mtu, subs, ini, ses, str⟩ from hl)] at c38
  obtain ⟨ln, hln⟩ : ∃ ln : LogN, (⟨base, term, mtu, subs, ini, ses, str⟩ : LogN) = ln := ⟨_, rfl⟩
  rw [hln]
  have hlM : ln.M = base + 3 * term := by rw [← hln]; rfl
  have hls : ln.subs = subs := by rw [← hln]
  have hall := fun pos => unstickT_all ln (by rw [← hln]; exact ⟨hb.1, hb.2.1⟩) pos
  have c41 := fun pos W b hb hW => unstick_any base term mtu subs ini ses str hl hni hns hnt pos W tb ga cap L b hb hW
  rw [hln] at c41
  obtain ⟨T, hT⟩ : ∃ T, watchT ln timeout times.toNat ⟨0, 0, 0, false⟩ = T := ⟨_, rfl⟩
  rw [hT]
  obtain ⟨M, hM⟩ : ∃ M, base + 3 * term = M := ⟨_, rfl⟩
  rw [hM] at c40 hlM
  have hM1 : 0 ≤ M ∧ M ≤ 200000 := by omega
  have HP := Lib.hid (And.intro hlM (And.intro hls (And.intro hall c41)))
  obtain ⟨X, hX⟩ : ∃ X, w.heap.size = X := ⟨_, rfl⟩
  obtain ⟨W1, hW1⟩ : ∃ W1, w.alloc (.cells #[.int .i64 base, .int .i64 term, .int .i64 mtu, .int .i64 subs, .int .i32 ini, .int .i32 ses, .int .i32 str] 23) = W1 := ⟨_, rfl⟩
  have HX : Hid (WB w W1 X base term mtu subs ini ses str tb ga cap L 0 none ca) := Lib.hid (hW1 ▸ ⟨UB.new h hX, hc.only (Only.of_below ((Below.refl _ _).alloc (Nat.le_refl _) _))⟩)
  have hs1 : W1.heap.size = X + 1 := by rw [← hW1, ← hX]; simp
  have hmin : (if 65536 < times then 65536 else times) = times := by split <;> omega
  have HT := Lib.hid (show at2 T L (watchT ln timeout times.toNat ⟨0, 0, 0, false⟩) L from hT ▸ at2_refl _ _)
  have w48 : IntKind.i64.wrap (M + 48) = M + 48 := by rw [IntKind.wrap_i64]; omega
  clear hl h hc hln hlM hls hall c41 hT hM
  go_enter Tryz.func16, Tryz.ntmps16
  go_wp2
  go_loopw [13, 14, 15, 16] (fun s la si ii wr => ∃ (sum last since : Int) (i b : Nat) (m : List Tld), s = .int .i64 sum ∧ la = .int .i64 last ∧ si = .int .i64 since ∧ ii = .int .i64 (i : Int) ∧ ((i : Int) ≤ times ∧ 0 ≤ sum ∧ sum ≤ 10000 * i ∧ 0 ≤ since ∧ since ≤ 1125899906842624) ∧ b ≤ L.length ∧ Hid (WB w wr X base term mtu subs ini ses str tb ga cap L b none ca ∧ L.drop b = m ∧ at2 T L (watchT ln timeout (times.toNat - i) ⟨sum, last, since, decide (i ≠ 0)⟩) m)) (fun _ _ _ ii _ => (times - intOf ii).toNat)
  case atStart => exact ⟨0, 0, 0, 0, 0, L, rfl, rfl, rfl, rfl, by omega, by omega, Lib.hid ⟨HX.out, rfl, HT.out⟩⟩
  case round =>
    clear HX HT
    obtain ⟨sum, last, since, i, b, m, rfl, rfl, rfl, rfl, hi, hbl, H⟩ := hrel
    by_cases hlt : (i : Int) < times
    · obtain ⟨n, hn⟩ : ∃ n, times.toNat - i = n + 1 := ⟨times.toNat - i - 1, by omega⟩
      have HX := Lib.hid H.out.1
      have HT := Lib.hid (show L.drop b = m ∧ at2 T L (subsT ln.M (sum, 0, 0) (finW ln timeout n ⟨sum, last, since, decide (i ≠ 0)⟩) 0 ln.subs.toNat 0 0) m ∧ times.toNat - i = n + 1 from ⟨H.out.2.1, by have h3 := H.out.2.2; rw [hn] at h3; exact watchT_on h3, hn⟩)
      have hn1 := Lib.hid hn
      clear H hn
      obtain ⟨m0, m1, m2, m3, m4, m5, m6⟩ := HX.out.ub.cells
      go_wp2_with (first | (go_at_call 38; refine (c38 _).mono ?_; rintro e v38 ⟨rfl, hB⟩; replace HX := Lib.hid (HX.out.below hB); clear hB; clear m0 m1 m2 m3 m4 m5 m6; obtain ⟨m0, m1, m2, m3, m4, m5, m6⟩ := HX.out.ub.cells))
      go_loopw [17, 18] (fun le kk wr => ∃ (least : Int) (k b : Nat) (m : List Tld) (now : Int), le = .int .i64 least ∧ kk = .int .i64 (k : Int) ∧ (k : Int) ≤ subs ∧ b ≤ L.length ∧ Hid (WB w wr X base term mtu subs ini ses str tb ga cap L b none ca ∧ L.drop b = m ∧ (0 < k → ∃ j x, b = j + 1 ∧ L[j]? = some x ∧ x.now = now) ∧ at2 T L (subsT ln.M (sum, 0, 0) (finW ln timeout n ⟨sum, last, since, decide (i ≠ 0)⟩) k (ln.subs.toNat - k) least now) m)) (fun _ kk _ => (subs - intOf kk).toNat)
      case atStart => exact ⟨0, 0, b, m, 0, rfl, rfl, by omega, hbl, Lib.hid ⟨HX.out, HT.out.1, fun h => absurd h (by omega), HT.out.2.1⟩⟩
      case round =>
        clear HX HT
        obtain ⟨least, k, b2, m2, now, rfl, rfl, hk, hbl2, H2⟩ := hrel
        have hls := HP.out.2.1
        by_cases hks : (k : Int) < subs
        · obtain ⟨r, hr⟩ : ∃ r, ln.subs.toNat - k = r + 1 := ⟨ln.subs.toNat - k - 1, by omega⟩
          have HX := Lib.hid H2.out.1
          have HT := Lib.hid (show L.drop b2 = m2 ∧ ln.subs.toNat - k = r + 1 ∧ at2 T L (subsT ln.M (sum, 0, 0) (finW ln timeout n ⟨sum, last, since, decide (i ≠ 0)⟩) k (r + 1) least now) m2 from ⟨H2.out.2.1, hr, hr ▸ H2.out.2.2.2⟩)
          clear H2 hr hls
          obtain ⟨m0, m1, m2', m3, m4, m5, m6⟩ := HX.out.ub.cells
          have a1 : IntKind.i64.wrap (8 * (k : Int)) = 8 * (k : Int) := by rw [IntKind.wrap_i64]; omega
          have a2 : IntKind.i64.wrap (M + 48 + 8 * (k : Int)) = M + 48 + 8 * (k : Int) := by rw [IntKind.wrap_i64]; omega
          have a3 : IntKind.i64.wrap ((k : Int) + 1) = (k : Int) + 1 := by rw [IntKind.wrap_i64]; omega
          rcases m2 with _ | ⟨x, m2⟩
          · have c39 := fun (W : World) (hW : TpS W tb ga cap L b2 none) => load_nil (w := W) (M + 48 + 8 * (k : Int)) 8 hW HT.out.1
            go_wp2_with (first | (go_at_call 40; refine (c40 _).mono ?_; clear c40; rintro e v40 ⟨rfl, hB⟩; replace HX := Lib.hid (HX.out.below hB); clear hB; clear m0 m1 m2' m3 m4 m5 m6; obtain ⟨m0, m1, m2', m3, m4, m5, m6⟩ := HX.out.ub.cells) | (go_at_call 39; refine (c39 _ HX.out.ub.tp.1).mono ?_; clear c39; rintro e v39 ⟨rfl, hK⟩; replace HX := Lib.hid (HX.out.step hK); clear hK; clear m0 m1 m2' m3 m4 m5 m6; obtain ⟨m0, m1, m2', m3, m4, m5, m6⟩ := HX.out.ub.cells))
            refine bodyPost_ret (v := .tuple #[.int .i64 sum, .int .i64 0, .int .i64 0]) (by simp [results, Tryz.results16, go_sem]) rfl ⟨_, rfl, ?_⟩
            obtain ⟨⟨K, e1⟩, e2⟩ := subsT_nil HT.out.2.2
            rw [e1, e2]
            have hd := drop_nil HT.out.1
            obtain rfl : b2 = L.length := by omega
            refine ⟨⟨_, _, _, rfl, rfl, rfl, fun _ => rfl⟩, ?_⟩
            rw [HP.out.1]
            exact HX.out.ub.tp
          · have c39 := fun (W : World) (hW : TpS W tb ga cap L b2 none) => load_cons (w := W) (M + 48 + 8 * (k : Int)) 8 hW HT.out.1
            obtain ⟨hX1, hlt2, hdr⟩ := drop_cons HT.out.1
            have hxv0 := (HX.out.ub.tp.1.row _ _ hX1).1
            obtain ⟨xv, hxv⟩ : ∃ v, x.v = v := ⟨_, rfl⟩
            rw [hxv] at c39 hxv0
            have HXV := Lib.hid hxv
            obtain ⟨sx, hsx⟩ : ∃ v, s64 xv = v := ⟨_, rfl⟩
            have a4 : IntKind.i64.wrap xv = sx := by rw [IntKind.wrap_i64, ← hsx, s64]
            have HD := Lib.hid (show L.drop (b2 + 1) = m2 ∧ L[b2]? = some x ∧ s64 x.v = sx from ⟨hdr, hX1, by rw [hxv, hsx]⟩)
            clear hdr hX1 hxv hsx
            have hat := Lib.hid (subsT_step HT.out.2.2)
            by_cases hk0 : k = 0
            · subst hk0
              have c39 := fun (W : World) (hW : TpS W tb ga cap L b2 none) => load_cons (w := W) (M + 48) 8 hW HT.out.1
              rw [HXV.out] at c39
              have HI := Lib.hid (show (if (0 : Nat) = 0 ∨ s64 x.v < least then s64 x.v else least) = sx by rw [if_pos (.inl rfl)]; exact HD.out.2.2)
              go_wp2_with (first | (go_at_call 40; refine (c40 _).mono ?_; clear c40; rintro e v40 ⟨rfl, hB⟩; replace HX := Lib.hid (HX.out.below hB); clear hB; clear m0 m1 m2' m3 m4 m5 m6; obtain ⟨m0, m1, m2', m3, m4, m5, m6⟩ := HX.out.ub.cells) | (go_at_call 39; refine (c39 _ HX.out.ub.tp.1).mono ?_; clear c39; rintro e v39 ⟨rfl, hK⟩; replace HX := Lib.hid (HX.out.step hK); clear hK; clear m0 m1 m2' m3 m4 m5 m6; obtain ⟨m0, m1, m2', m3, m4, m5, m6⟩ := HX.out.ub.cells))
              have HN : Hid (WB w v39 X base term mtu subs ini ses str tb ga cap L (b2 + 1) none ca ∧ L.drop (b2 + 1) = m2 ∧ (0 < 0 + 1 → ∃ j y, b2 + 1 = j + 1 ∧ L[j]? = some y ∧ y.now = x.now) ∧ at2 T L (subsT ln.M (sum, 0, 0) (finW ln timeout n ⟨sum, last, since, decide (i ≠ 0)⟩) (0 + 1) (ln.subs.toNat - (0 + 1)) sx x.now) m2) := Lib.hid ⟨HX.out, HD.out.1, fun _ => ⟨b2, x, rfl, HD.out.2.1, rfl⟩, by have h3 := hat.out; rw [HI.out] at h3; have h4 := HT.out.2.1; rw [show ln.subs.toNat - (0 + 1) = r by omega]; exact h3⟩
              exact ⟨⟨sx, 0 + 1, b2 + 1, m2, x.now, rfl, by simp, by omega, by omega, HN⟩, by simp [intOf]; omega⟩
            · have hk1 : ((k : Int) == 0) = false := by simp; omega
              by_cases hcmp : sx < least
              · have HI := Lib.hid (show (if k = 0 ∨ s64 x.v < least then s64 x.v else least) = sx by rw [HD.out.2.2, if_pos (.inr hcmp)])
                go_wp2_with (first | (go_at_call 40; refine (c40 _).mono ?_; clear c40; rintro e v40 ⟨rfl, hB⟩; replace HX := Lib.hid (HX.out.below hB); clear hB; clear m0 m1 m2' m3 m4 m5 m6; obtain ⟨m0, m1, m2', m3, m4, m5, m6⟩ := HX.out.ub.cells) | (go_at_call 39; refine (c39 _ HX.out.ub.tp.1).mono ?_; clear c39; rintro e v39 ⟨rfl, hK⟩; replace HX := Lib.hid (HX.out.step hK); clear hK; clear m0 m1 m2' m3 m4 m5 m6; obtain ⟨m0, m1, m2', m3, m4, m5, m6⟩ := HX.out.ub.cells))
                have HN : Hid (WB w v39 X base term mtu subs ini ses str tb ga cap L (b2 + 1) none ca ∧ L.drop (b2 + 1) = m2 ∧ (0 < k + 1 → ∃ j y, b2 + 1 = j + 1 ∧ L[j]? = some y ∧ y.now = x.now) ∧ at2 T L (subsT ln.M (sum, 0, 0) (finW ln timeout n ⟨sum, last, since, decide (i ≠ 0)⟩) (k + 1) (ln.subs.toNat - (k + 1)) sx x.now) m2) := Lib.hid ⟨HX.out, HD.out.1, fun _ => ⟨b2, x, rfl, HD.out.2.1, rfl⟩, by have h3 := hat.out; rw [HI.out] at h3; have h4 := HT.out.2.1; rw [show ln.subs.toNat - (k + 1) = r by omega]; exact h3⟩
                exact ⟨⟨sx, k + 1, b2 + 1, m2, x.now, rfl, by simp, by omega, by omega, HN⟩, by simp [intOf]; omega⟩
              · have HI := Lib.hid (show (if k = 0 ∨ s64 x.v < least then s64 x.v else least) = least by rw [HD.out.2.2, if_neg (by rintro (h | h); exact hk0 h; exact hcmp h)])
                go_wp2_with (first | (go_at_call 40; refine (c40 _).mono ?_; clear c40; rintro e v40 ⟨rfl, hB⟩; replace HX := Lib.hid (HX.out.below hB); clear hB; clear m0 m1 m2' m3 m4 m5 m6; obtain ⟨m0, m1, m2', m3, m4, m5, m6⟩ := HX.out.ub.cells) | (go_at_call 39; refine (c39 _ HX.out.ub.tp.1).mono ?_; clear c39; rintro e v39 ⟨rfl, hK⟩; replace HX := Lib.hid (HX.out.step hK); clear hK; clear m0 m1 m2' m3 m4 m5 m6; obtain ⟨m0, m1, m2', m3, m4, m5, m6⟩ := HX.out.ub.cells))
                have HN : Hid (WB w v39 X base term mtu subs ini ses str tb ga cap L (b2 + 1) none ca ∧ L.drop (b2 + 1) = m2 ∧ (0 < k + 1 → ∃ j y, b2 + 1 = j + 1 ∧ L[j]? = some y ∧ y.now = x.now) ∧ at2 T L (subsT ln.M (sum, 0, 0) (finW ln timeout n ⟨sum, last, since, decide (i ≠ 0)⟩) (k + 1) (ln.subs.toNat - (k + 1)) least x.now) m2) := Lib.hid ⟨HX.out, HD.out.1, fun _ => ⟨b2, x, rfl, HD.out.2.1, rfl⟩, by have h3 := hat.out; rw [HI.out] at h3; have h4 := HT.out.2.1; rw [show ln.subs.toNat - (k + 1) = r by omega]; exact h3⟩
                exact ⟨⟨least, k + 1, b2 + 1, m2, x.now, rfl, by simp, by omega, by omega, HN⟩, by simp [intOf]; omega⟩
        · obtain ⟨j, x, rfl, hx, hnow⟩ := H2.out.2.2.1 (by omega)
          have hk2 : ln.subs.toNat - k = 0 := by omega
          have HX := Lib.hid H2.out.1
          obtain ⟨hn0, cb, co, rfl, hne, hcl⟩ := HX.out.clk j x hx
          rw [hnow] at hn0 hcl
          have hjl : j < L.length := (List.getElem?_eq_some_iff.1 hx).1
          have hlen := HX.out.ub.tp.1.len
          have mA := HX.out.at
          rw [show ((j + 1 : Nat) : Int) = (j : Int) + 1 by omega] at mA
          have HI := Lib.hid hn1.out
          have HT := Lib.hid (show L.drop (j + 1) = m2 ∧ at2 T L (finW ln timeout n ⟨sum, last, since, decide (i ≠ 0)⟩ least now) m2 from ⟨H2.out.2.1, by have := H2.out.2.2.2; rw [hk2] at this; exact this⟩)
          clear H2 hx hnow hk2 hls
          obtain ⟨m0, m1, m2', m3, m4, m5, m6⟩ := HX.out.ub.cells
          have b1 : IntKind.i64.wrap ((j : Int) + 1 - 1) = (j : Int) := by rw [IntKind.wrap_i64]; omega
          have b2 : (j : Int) + 1 - 1 = (j : Int) := by omega
          have b3 : IntKind.i64.wrap (j : Int) = (j : Int) := by rw [IntKind.wrap_i64]; omega
          have b4 : (j : Int) < L.length := by omega
          have b5 : ¬ (j : Int) ≥ L.length := by omega
          have b6 : (0 : Int) ≤ (j : Int) := by omega
          have b7 : IntKind.i64.wrap ((i : Int) + 1) = (i : Int) + 1 := by rw [IntKind.wrap_i64]; omega
          have b8 : IntKind.i64.wrap (now - since) = now - since := by rw [IntKind.wrap_i64]; omega
          by_cases hi0 : i = 0
          · subst hi0
            go_wp2
            have HN : Hid (WB w wr X base term mtu subs ini ses str tb (ga) cap L (j + 1) none (some ⟨cb, co, none⟩) ∧ L.drop (j + 1) = m2 ∧ at2 T L (watchT ln timeout (times.toNat - (0 + 1)) ⟨sum, least, now, decide (0 + 1 ≠ 0)⟩) m2) := Lib.hid ⟨HX.out, HT.out.1, by rw [show times.toNat - (0 + 1) = n by have := HI.out; omega, show decide (0 + 1 ≠ 0) = true by simp]; exact (finW_first ln timeout n ⟨sum, last, since, decide ((0 : Nat) ≠ 0)⟩ least now (.inl (by simp))) ▸ HT.out.2⟩
            exact ⟨⟨sum, least, now, 0 + 1, j + 1, m2, rfl, rfl, rfl, by simp, by omega, by omega, HN⟩, by simp [intOf]; omega⟩
          · have hi1 : ((i : Int) == 0) = false := by simp; omega
            by_cases hle : least = last
            · by_cases hwt : now - since ≤ timeout
              · subst hle
                go_wp2
                have HN : Hid (WB w wr X base term mtu subs ini ses str tb (ga) cap L (j + 1) none (some ⟨cb, co, none⟩) ∧ L.drop (j + 1) = m2 ∧ at2 T L (watchT ln timeout (times.toNat - (i + 1)) ⟨sum, least, since, decide (i + 1 ≠ 0)⟩) m2) := Lib.hid ⟨HX.out, HT.out.1, by rw [show times.toNat - (i + 1) = n by have := HI.out; omega, show decide (i + 1 ≠ 0) = true by simp]; exact (finW_wait ln timeout n ⟨sum, least, since, true⟩ least now rfl rfl (by show ¬ now - since > timeout; omega)) ▸ (show at2 T L (finW ln timeout n ⟨sum, least, since, true⟩ least now) m2 by have := HT.out.2; rwa [show decide (i ≠ 0) = true by simp [hi0]] at this)⟩
                exact ⟨⟨sum, least, since, i + 1, j + 1, m2, rfl, rfl, rfl, by simp, by omega, by omega, HN⟩, by simp [intOf]; omega⟩
              · subst hle
                have HU := Lib.hid (show at2 T L (inU ln timeout n ⟨sum, least, now, true⟩ least (unstickT ln least)) m2 from (finW_mend ln timeout n ⟨sum, least, since, true⟩ least now rfl rfl (by show now - since > timeout; omega)) ▸ (show at2 T L (finW ln timeout n ⟨sum, least, since, true⟩ least now) m2 by have := HT.out.2; rwa [show decide (i ≠ 0) = true by simp [hi0]] at this))
                have c41 := fun (W : World) (hW : TpS W tb ga cap L (j + 1) none) => HP.out.2.2.2 least W (j + 1) hbl2 hW
                rw [HT.out.1] at c41
                have hsm := allO_run m2 _ (HP.out.2.2.1 least)
                have hdl := left_at (p := unstickT ln least) HT.out.1
                have hbb0 : L.length - ((unstickT ln least).left m2).length ≤ L.length := Nat.sub_le _ _
                rcases hU : (unstickT ln least).run m2 with ⟨n1, to⟩ | ⟨⟨n1, to⟩, A, K⟩
                · rw [hU] at c41 hsm
                  obtain ⟨B1, B2⟩ := bind_done (f := fun o : UO => (sum + o.1, if o.2 > 0 then least else 0, o.2)) (g := fun o : UO => watchT ln timeout n ⟨sum + o.1, least, now, true⟩) hU
                  have hs1 : 0 ≤ n1 ∧ n1 ≤ 10000 := hsm
                  have hs2 : IntKind.i64.wrap (sum + n1) = sum + n1 := by rw [IntKind.wrap_i64]; omega
                  obtain ⟨bb, hbb⟩ : ∃ bb, L.length - ((unstickT ln least).left m2).length = bb := ⟨_, rfl⟩
                  rw [hbb] at c41 hdl hbb0
                  have HF := Lib.hid (show at2 T L (watchT ln timeout n ⟨sum + n1, least, now, true⟩) ((unstickT ln least).left m2) ∧ L.drop bb = (unstickT ln least).left m2 from ⟨⟨HU.out.1.trans B1, HU.out.2.trans B2⟩, hdl⟩)
                  clear HU HT hU B1 B2 hdl hbb hsm
                  go_wp2_with (first | (go_at_call 41; refine (c41 _ HX.out.ub.tp.1).mono ?_; clear c41; rintro e v41 ⟨v, rfl, ⟨ev, hev, rfl⟩, hK⟩; have hev2 : (ev == 10) = false := (by simpa using hev); replace HX := Lib.hid (HX.out.step hK); clear hK))
                  have HN : Hid (WB w v41 X base term mtu subs ini ses str tb ga cap L bb none (some ⟨cb, co, none⟩) ∧ L.drop bb = (unstickT ln least).left m2 ∧ at2 T L (watchT ln timeout (times.toNat - (i + 1)) ⟨sum + n1, least, now, decide (i + 1 ≠ 0)⟩) ((unstickT ln least).left m2)) := Lib.hid ⟨HX.out, HF.out.2, by rw [show times.toNat - (i + 1) = n by have := HI.out; omega, show decide (i + 1 ≠ 0) = true by simp]; exact HF.out.1⟩
                  exact ⟨⟨sum + n1, least, now, i + 1, bb, _, rfl, rfl, rfl, by simp, by omega, by omega, HN⟩, by simp [intOf]; omega⟩
                · rw [hU, ask_left hU] at c41
                  rw [hU] at hsm
                  rw [ask_left hU] at hdl
                  obtain ⟨⟨K', B1⟩, B2⟩ := bind_ask (f := fun o : UO => (sum + o.1, if o.2 > 0 then least else 0, o.2)) (g := fun o : UO => watchT ln timeout n ⟨sum + o.1, least, now, true⟩) hU
                  have hs1 : 0 ≤ n1 ∧ n1 ≤ 10000 := hsm
                  have hs2 : IntKind.i64.wrap (sum + n1) = sum + n1 := by rw [IntKind.wrap_i64]; omega
                  have HF := Lib.hid (And.intro (HU.out.1.trans B1) (HU.out.2.trans B2))
                  clear HU HT hU B1 B2 hdl hbb0 hsm
                  go_wp2_with (first | (go_at_call 41; refine (c41 _ HX.out.ub.tp.1).mono ?_; clear c41; rintro e v41 ⟨v, rfl, rfl, hK⟩; replace HX := Lib.hid (HX.out.step hK); clear hK))
                  refine bodyPost_ret (v := .tuple #[.int .i64 (sum + n1), .int .i64 least, .int .i64 to]) (by simp [results, Tryz.results16, go_sem]) rfl ⟨_, rfl, ?_⟩
                  rw [HF.out.1, HF.out.2]
                  exact ⟨⟨_, _, _, rfl, rfl, rfl, fun h => (if_pos h).symm⟩, HX.out.ub.tp⟩
            · have hle2 : (least != last) = true := by simp [hle]
              go_wp2
              have HN : Hid (WB w wr X base term mtu subs ini ses str tb (ga) cap L (j + 1) none (some ⟨cb, co, none⟩) ∧ L.drop (j + 1) = m2 ∧ at2 T L (watchT ln timeout (times.toNat - (i + 1)) ⟨sum, least, now, decide (i + 1 ≠ 0)⟩) m2) := Lib.hid ⟨HX.out, HT.out.1, by rw [show times.toNat - (i + 1) = n by have := HI.out; omega, show decide (i + 1 ≠ 0) = true by simp]; exact (finW_first ln timeout n ⟨sum, last, since, decide (i ≠ 0)⟩ least now (.inr hle)) ▸ HT.out.2⟩
              exact ⟨⟨sum, least, now, i + 1, j + 1, m2, rfl, rfl, rfl, by simp, by omega, by omega, HN⟩, by simp [intOf]; omega⟩
    · have HT := Lib.hid (show at2 T L (.done (sum, 0, 0)) m by have := H.out.2.2; rw [show times.toNat - i = 0 by omega] at this; exact this)
      have HX := Lib.hid H.out.1
      have HD := Lib.hid H.out.2.1
      clear H
      obtain ⟨m0, m1, m2, m3, m4, m5, m6⟩ := HX.out.ub.cells
      go_wp2
      refine bodyPost_ret (v := .tuple #[.int .i64 sum, .int .i64 0, .int .i64 0]) (by simp [results, Tryz.results16, go_sem]) rfl ⟨_, rfl, ?_⟩
      rw [HT.out.1, HT.out.2, Pr.run_done, left_done, drop_len HD.out hbl]
      exact ⟨⟨_, _, _, rfl, rfl, rfl, fun _ => rfl⟩, HX.out.ub.tp⟩
end Go.Proofs.YtlaogoehmndcjaaGreatDoor.Sy
