/- WwN, WwO, WwQ, WwS: in one text. -/
import Derived.Test.YtpbhfckefmboaaaGreatDoorGp22
set_option linter.unusedVariables false
set_option linter.unusedSimpArgs false
set_option linter.unusedSectionVars false
namespace Go.Proofs.YtpbhfckefmboaaaGreatDoor.Sy
open Go Go.RowKit Go.Lib Go.AS Go.Base Go.Pr Go.Proofs.YtpbhfckefmboaaaGreatDoor.Ba
/-- what is left of a writer's tree, while an act is done (fuel: as many tries) -/
def treeW (l : LogN) (f : Nat) (g : Bool) (p : Pr An Ot) (ops : List OpN) (tries n : Int) (out : List Snt) : Pr An WrO := match g, ops with
  | true, o :: rest => p.bind (fun w => ⟨out, w.s, w.has⟩) fun w =>
      if (w.e = 5 ∨ w.e = 6) ∧ tries > 0 then writeT l f (o :: rest) (tries - 1) (n + 1) out
      else writeT l f rest tries 1 (out ++ [⟨w.pos, w.e, n, w.s, w.has⟩])
  | _, _ => .done ⟨out, noSlt, false⟩
theorem writeT_nil (l : LogN) (f : Nat) (tries n : Int) (out : List Snt) : writeT l f [] tries n out = .done ⟨out, noSlt, false⟩ := by cases f <;> rfl
theorem writeT_cons (l : LogN) (f : Nat) (o : OpN) (rest : List OpN) (tries n : Int) (out : List Snt) : writeT l (f + 1) (o :: rest) tries n out = treeW l f true (onceT l o) (o :: rest) tries n out := rfl
/-- an act that is done at once is not tried again -/
theorem once_done (l : LogN) (o : OpN) {w : Ot} (h : onceT l o = .done w) : ¬ (w.e = 5 ∨ w.e = 6) := by
  have hd : ∀ {a : Ot}, (Pr.done a : Pr An Ot) = .done w → a = w := fun h => by injection h
  unfold onceT at h
  split at h
  · unfold offerT at h
    split at h
    · rw [← hd h]; decide
    · split at h
      · rw [← hd h]; decide
      · cases h
  · split at h
    · unfold claimT at h
      split at h
      · rw [← hd h]; decide
      · split at h
        · rw [← hd h]; decide
        · cases h
    · rw [← hd h]; decide
/-- numbers of a writer that stands -/
structure WB (f q : Nat) (g : Bool) (p : Pr An Ot) (ops : List OpN) (tries n : Int) (out : List Snt) : Prop where
  data : ∀ o ∈ ops, (∀ x ∈ o.data, x < 256) ∧ o.data.length ≤ 1000
  len : ops.length + out.length ≤ 100
  tr : 0 ≤ tries ∧ tries < 9223372036854775808
  n0 : 0 ≤ n ∧ n + q ≤ 2500
  qb : q ≤ 1500
  some_ : g = true → ops ≠ []
  fuel : g = true → tries.toNat + ops.length ≤ f + 1
  again : g = true → ∀ w, p = .done w → (w.e = 5 ∨ w.e = 6) → n + q + 1 ≤ 2500
structure WT (l : Lg) (T : Pr An WrO) (q : Nat) (W : World) (b : Nat) (K : Nat → Prop) : Prop where
  ex : ∃ g p ops tries n out f, WX l q W b K g p ops tries n out ∧ WB f q g p ops tries n out ∧ T = treeW (lgN l) f g p ops tries n out
/-- what is left to be tried, read off the world -/
def measW (b : Nat) (W : World) : Nat := (match W.cell? ⟨b, 12, none⟩ with | some (.int _ t) => t.toNat | _ => 0) + (match W.cell? ⟨b, 11, none⟩ with | some (.slice _ n _) => n | _ => 0)
section
variable {l : Lg} {q : Nat} {W W' : World} {b : Nat} {K OA : Nat → Prop} {g : Bool} {now left dn : Value} {ops : List OpN} {tries n : Int} {out : List Snt} {o : Ot} {T : Pr An WrO} {f : Nat} {p : Pr An Ot}
theorem measW_eq (hT : W.heap[b]? = some (.cells (wrC b now g l left tries n dn) 142)) (hr : OpsAt W K left ops) : measW b W = tries.toNat + ops.length := by
  obtain ⟨la, ln, lc, rfl, rfl, _⟩ := hr
  unfold wrC at hT
  obtain ⟨c0, c1, c2, c3, c4, c5, c6, c7, c8, c9, c10, c11, c12, -⟩ := blk15 hT
  unfold measW
  rw [c11, c12]
/-- what an act that has ended leaves to be done -/
structure Rest (l : Lg) (T : Pr An WrO) (f q : Nat) (ops : List OpN) (tries n : Int) (out : List Snt) (m : Nat) : Prop where
  data : ∀ o ∈ ops, (∀ x ∈ o.data, x < 256) ∧ o.data.length ≤ 1000
  len : ops.length + out.length ≤ 100
  tr : 0 ≤ tries ∧ tries < 9223372036854775808
  n0 : 0 ≤ n ∧ n + 1 + q ≤ 2500
  qb : q ≤ 1500
  fuel : tries.toNat + ops.length ≤ f
  less : tries.toNat + ops.length < m
  tree : T = writeT (lgN l) f ops tries (n + 1) out
theorem ended_any {o1 : OpN} (lt : ∀ k, K k → k < W.heap.size) (kb : K b) (hT : W.heap[b]? = some (.cells (wrC b now true l left tries n dn) 142)) (hA : AX l q (.done o) now W OA) (hO : ∀ k, OA k → K k ∧ k ≠ b) (hr : RX W b K OA left dn (o1 :: ops) out) (hB : WB f q true (.done o) (o1 :: ops) tries n out) (hTr : T = treeW (lgN l) f true (.done o) (o1 :: ops) tries n out) :
    Calls Tryz.prog 64 #[.pointer (some ⟨b, 0, none⟩), now] W fun e w' => ∃ K' ops' tries' n' out', e = .returned (.tuple #[]) ∧ WK K W w' K' ∧ WI l w' b K' true now ops' tries' n' out' ∧ Rest l T f q ops' tries' n' out' (tries.toNat + (o1 :: ops).length) := by
  have hlen := hB.len
  have hf := hB.fuel rfl
  have htr := hB.tr
  rw [List.length_cons] at hlen hf
  have hne : ¬ (o.e = 5 ∨ o.e = 6) := by have := hA.few o rfl; omega
  refine (ended_done lt kb hT hA hO hr hne ⟨by omega, by omega⟩).mono ?_
  rintro e w' ⟨K', rfl, h1, h2⟩
  refine ⟨K', _, _, _, _, rfl, h1, h2, fun o ho => hB.data o (List.mem_cons_of_mem _ ho), by rw [List.length_append]; simp only [List.length_cons, List.length_nil]; omega, by omega, ⟨Int.le_refl _, by have := hB.qb; omega⟩, hB.qb, by omega, by rw [List.length_cons]; omega, ?_⟩
  rw [hTr]; exact if_neg fun h => hne h.1
/-- the next act, or none -/
theorem more_all (hw : l.ok) {m : Nat} (h : WI l W b K g now ops tries n out) (hR : Rest l T f q ops tries n out m) :
    Calls Tryz.prog 63 #[.pointer (some ⟨b, 0, none⟩)] W fun e w' => (ops = [] ∧ e = .returned (.tuple #[.nilIface, .bool false]) ∧ w' = W) ∨ ∃ t rt OA p f', e = .returned (.tuple #[.iface t (ptrV rt), .bool true]) ∧ WI l w' b K g now ops tries (n + 1) out ∧ Frm K W w' ∧ AX l q p (.iface t (ptrV rt)) w' OA ∧ (∀ k, OA k → W.heap.size ≤ k) ∧ WB f' q true p ops tries (n + 1) out ∧ T = treeW (lgN l) f' true p ops tries (n + 1) out := by
  cases ops with
  | nil => exact (more_nil h).mono fun e w' ⟨h1, h2⟩ => .inl ⟨rfl, h1, h2⟩
  | cons o ops =>
    have hl := hR.len
    rw [List.length_cons] at hl
    have hf := hR.fuel
    rw [List.length_cons] at hf
    refine (more_any hw (hR.data o (List.mem_cons_self ..)) ⟨hR.n0.1, by have := hR.n0; omega⟩ (by omega) h).mono ?_
    rintro e w' ⟨act, OA, rfl, h1, h2, h3, h4⟩
    obtain ⟨f', rfl⟩ : ∃ f', f = f' + 1 := ⟨f - 1, by omega⟩
    have ha := h3 q
    obtain ⟨rt, hk⟩ := ha.ex
    have hv : ∃ t, act = .iface t (ptrV rt) := by cases hk <;> exact ⟨_, rfl⟩
    obtain ⟨t, rfl⟩ := hv
    exact .inr ⟨t, rt, OA, _, f', rfl, h1, h2, ha, h4, ⟨hR.data, hR.len, hR.tr, ⟨by have := hR.n0; omega, by have := hR.n0; omega⟩, hR.qb, fun _ => List.cons_ne_nil _ _, fun _ => by rw [List.length_cons]; omega, fun _ w hw' he => absurd he (once_done _ _ hw')⟩, by rw [hR.tree]; rfl⟩
end
end Go.Proofs.YtpbhfckefmboaaaGreatDoor.Sy
namespace Go.Proofs.YtpbhfckefmboaaaGreatDoor.Sy
open Go Go.RowKit Go.Lib Go.AS Go.Base Go.Pr Go.Proofs.YtpbhfckefmboaaaGreatDoor.Ba
/-- a writer that stands for its tree, and asks where it goes on -/
structure WR (l : Lg) (T : Pr An WrO) (q : Nat) (W : World) (b : Nat) (K : Nat → Prop) : Prop where
  ex : ∃ g p ops tries n out f, WX l q W b K g p ops tries n out ∧ WB f q g p ops tries n out ∧ T = treeW (lgN l) f g p ops tries n out ∧ (g = true → isAsk p)
section
variable {l : Lg} {q : Nat} {W W' : World} {b : Nat} {K OA : Nat → Prop} {T : Pr An WrO} {g : Bool} {now left dn : Value} {ops : List OpN} {tries n : Int} {out : List Snt} {p : Pr An Ot}
theorem next_on {w4 : World} {s : Nat} {act : Value} (h : WI l w4 b K true now ops tries n out) (lts : ∀ k, K k → k < s) (hOA : ∀ k, OA k → s ≤ k) (ha : AX l q p act w4 OA) :
    WX l q ((w4.setCell ⟨b, 0, none⟩ act).setCell ⟨b, 3, none⟩ (.bool true)) b (fun k => K k ∨ OA k) true p ops tries n out := by
  obtain ⟨lt, kb, left, dn, hT, hr⟩ := h
  have o4 : Only b w4 ((w4.setCell ⟨b, 0, none⟩ act).setCell ⟨b, 3, none⟩ (.bool true)) := (Only.set _ _ _).trans (Only.set _ _ _)
  have h4 := setc (C' := wrC b act true l left tries n dn) (setc (C' := wrC b act true l left tries n dn) hT 0 act) 3 (.bool true)
  have hk : ∀ k, k < w4.heap.size → k ≠ b → _ := fun k h1 h2 => o4.block k h1 h2
  have hob : ∀ k, OA k → k ≠ b := fun k hk e => by have := hOA k hk; have := lts b kb; omega
  have hok : ∀ k, K k → ¬ OA k := fun k h1 h2 => by have := lts k h1; have := hOA k h2; omega
  refine ⟨fun k hk => ?_, .inl kb, act, left, dn, OA, h4, fun _ => ha.move o4.size fun k h => hk k (ha.lt k h) (hob k h), fun k hk => ⟨.inr hk, hob k hk⟩, ⟨hr.left.move (fun k h1 h2 => hk k h2 h1.2.1) fun k h1 h2 => ⟨.inl h1.1, h1.2.1, hok k h1.1, h1.2.2.2⟩, own_at hr.row fun g hg => hk g (lt g (hr.own g hg).1) (hr.own g hg).2.1, fun k hg => ⟨.inl (hr.own k hg).1, (hr.own k hg).2.1, hok k (hr.own k hg).1⟩⟩⟩
  rcases hk with hk | hk
  · exact Nat.lt_of_lt_of_le (lt k hk) o4.size
  · exact Nat.lt_of_lt_of_le (ha.lt k hk) o4.size
theorem next_off {w4 : World} (h : WI l w4 b K true now ops tries n out) :
    WX l q ((w4.setCell ⟨b, 0, none⟩ .nilIface).setCell ⟨b, 3, none⟩ (.bool false)) b K false p ops tries n out := by
  obtain ⟨lt, kb, left, dn, hT, hr⟩ := h
  have o4 : Only b w4 ((w4.setCell ⟨b, 0, none⟩ .nilIface).setCell ⟨b, 3, none⟩ (.bool false)) := (Only.set _ _ _).trans (Only.set _ _ _)
  have h4 := setc (C' := wrC b .nilIface false l left tries n dn) (setc (C' := wrC b .nilIface true l left tries n dn) hT 0 .nilIface) 3 (.bool false)
  exact ⟨fun k hk => Nat.lt_of_lt_of_le (lt k hk) o4.size, kb, _, left, dn, fun _ => False, h4, fun h => (by cases h), fun k hk => absurd hk id, hr.moved lt fun k h1 h2 => o4.block k (lt k h1) h2⟩
/-- the writer's cells were stored into -/
theorem wk_set {w4 : World} (kb : K b) (u v : Value) : WK K w4 ((w4.setCell ⟨b, 0, none⟩ u).setCell ⟨b, 3, none⟩ v) K := by
  have o4 : Only b w4 ((w4.setCell ⟨b, 0, none⟩ u).setCell ⟨b, 3, none⟩ v) := (Only.set _ _ _).trans (Only.set _ _ _)
  exact ⟨⟨o4.os, o4.tape, o4.output, o4.size, fun k h1 h2 => o4.block k h1 fun e => h2 (e ▸ kb)⟩, fun k hk => .inl hk⟩
theorem WK.wide {K K1 K2 : Nat → Prop} {W W' : World} (h : WK K W W' K1) (hk : ∀ k, K2 k → K1 k ∨ W.heap.size ≤ k) : WK K W W' K2 :=
  ⟨h.frm, fun k h2 => by
    rcases hk k h2 with h1 | h1
    · exact h.new k h1
    · exact .inr h1⟩
theorem rest_nil {f m : Nat} (h : Rest l T f q [] tries n out m) (p : Pr An Ot) : WB f q false p [] tries n out ∧ T = treeW (lgN l) f false p [] tries n out :=
  ⟨⟨h.data, h.len, h.tr, ⟨h.n0.1, by have := h.n0; omega⟩, h.qb, fun h => (by cases h), fun h => (by cases h), fun h => (by cases h)⟩, by rw [h.tree, writeT_nil]; rfl⟩
theorem meas_wx (h : WX l q W b K g p ops tries n out) : measW b W = tries.toNat + ops.length := by
  obtain ⟨-, -, now, left, dn, OA, hT, -, -, hr⟩ := h
  exact measW_eq hT hr.left
set_option maxRecDepth 1000000 in
set_option maxHeartbeats 6400000 in
theorem settle (hw : l.ok) (h : WT l T q W b K) :
    Calls Tryz.prog 95 #[.pointer (some ⟨b, 0, none⟩)] W fun e w' => ∃ K', e = .returned (.tuple #[]) ∧ WK K W w' K' ∧ WR l T q w' b K' := by
  have H0 := Lib.hid h
  clear h
  go_enter Tryz.func95, Tryz.ntmps95
  go_wp2_with (fail)
  go_loopw [] (fun wr => Hid (∃ K1, WK K W wr K1 ∧ WT l T q wr b K1)) (fun wr => measW b wr)
  case atStart =>
    exact Lib.hid ⟨K, .below (Below.refl _ _), H0.out⟩
  case round =>
    obtain ⟨K1, hwk, ⟨g, p, ops, tries, n, out, f, hwx, hB, hTr⟩⟩ := hrel.out
    clear hrel
    have hme := meas_wx hwx
    have hwx0 := hwx
    obtain ⟨lt, kb, now, left, dn, OA, hT, hA, hO, hr⟩ := hwx
    have hTu := hT
    unfold wrC at hTu
    obtain ⟨c0, c1, c2, c3, -⟩ := blk15 hTu
    clear hTu
    cases g with
    | false =>
      have HX := Lib.hid (And.intro hwk (And.intro hwx0 (And.intro hB hTr)))
      clear hwk hwx0 hB hTr hT hA hr hme lt kb hO
      go_wp2
      go_returns
      obtain ⟨hwk, hwx0, hB, hTr⟩ := HX.out
      exact ⟨K1, rfl, hwk, ⟨false, p, ops, tries, n, out, f, hwx0, hB, hTr, fun h => (by cases h)⟩⟩
    | true =>
      obtain ⟨o1, rest, rfl⟩ : ∃ o1 rest, ops = o1 :: rest := by
        cases ops with
        | nil => exact absurd rfl (hB.some_ rfl)
        | cons o1 rest => exact ⟨o1, rest, rfl⟩
      have hax := hA rfl
      obtain ⟨rt, hc⟩ := hax.acts
      rcases hc with ⟨rfl, -⟩ | ⟨rfl, -⟩ | ⟨rfl, -⟩
      all_goals
        first | have c := (acts136 hax).next | have c := (acts138 hax).next | have c := (acts140 hax).next
        cases p with
        | ask po pa pk =>
          have HX := Lib.hid (And.intro hwk (And.intro lt (And.intro kb (And.intro hT (And.intro hO (And.intro hr (And.intro hB hTr)))))))
          clear hwk lt kb hT hO hr hB hTr hwx0 hA hax hme
          go_wp2_with (fail)
          refine c.mono ?_
          clear c
          rintro e w1 ⟨nv, rfl, hwv, hf, ha⟩
          obtain ⟨ak, aa, an, av, au, ba, bn, bc, rfl⟩ := hwv
          obtain ⟨hwk, lt, kb, hT, hO, hr, hB, hTr⟩ := HX.out
          obtain ⟨hwx2, hwk2⟩ := acted lt kb hT hO hr hf grow_new ha
          have H2 := Lib.hid (And.intro hwk (And.intro hwx2 (And.intro hwk2 (And.intro hB hTr))))
          clear hwk lt kb hT hO hr hB hTr hf ha hwx2 hwk2
          go_wp2
          go_returns
          obtain ⟨hwk, hwx2, hwk2, hB, hTr⟩ := H2.out
          have hb : ∀ x, Below w1.heap.size w1 (w1.alloc x) := fun x => (Below.refl _ _).alloc (Nat.le_refl _) _
          refine ⟨_, rfl, (hwk.trans hwk2).trans (.below (hb _)), ⟨true, _, _, _, _, _, f, hwx2.move (hb _).size fun k hk => (hb _).block k (hwx2.lt k hk), ⟨hB.data, hB.len, hB.tr, hB.n0, hB.qb, hB.some_, hB.fuel, hB.again⟩, hTr, fun _ => trivial⟩⟩
        | done o =>
          have HX := Lib.hid (And.intro hwk (And.intro lt (And.intro kb (And.intro hT (And.intro hO (And.intro hr (And.intro hB (And.intro hTr hme))))))))
          clear hwk lt kb hT hO hr hB hTr hwx0 hA hax hme
          go_wp2_with (fail)
          refine c.mono ?_
          clear c
          rintro e w1 ⟨nv, rfl, hwv, hf, ha⟩
          cases hwv
          obtain ⟨hwk, lt, kb, hT, hO, hr, hB, hTr, hme⟩ := HX.out
          obtain ⟨hwx2, hwk2⟩ := acted lt kb hT hO hr hf grow_new ha
          have hO1 : ∀ k, Grow OA wr w1 k → (K1 k ∨ Grow OA wr w1 k) ∧ k ≠ b := fun k hk => ⟨.inr hk, fun e => by
            subst e
            rcases hk with hk | hk
            · exact (hO k hk).2 rfl
            · have := lt k kb; omega⟩
          have hT1 : w1.heap[b]? = _ := (hf.block b (lt b kb) fun h => (hO b h).2 rfl).trans hT
          have hr1 := RX.acted (O' := Grow OA wr w1) hr lt hf grow_new
          obtain ⟨V, hV⟩ : ∃ V, w1.alloc (.cells #[.int .i64 0, .int .i64 0, .int .i64 0, .int .u64 0, .int .u64 0, .slice none 0 0] 40) = V := ⟨_, rfl⟩
          have bV : Below w1.heap.size w1 V := by rw [← hV]; exact (Below.refl _ _).alloc (Nat.le_refl _) _
          have hTu : V.heap[b]? = _ := (bV.block b (hwx2.lt b hwx2.kb)).trans hT1
          unfold wrC at hTu
          obtain ⟨d0, d1, d2, d3, -⟩ := blk15 hTu
          have cE := fun V' (hV' : Below V.heap.size V V') =>
            have b2 : Below w1.heap.size w1 V' := bV.trans (hV'.mono bV.size)
            ended_any (fun k hk => Nat.lt_of_lt_of_le (hwx2.lt k hk) b2.size) hwx2.kb ((b2.block b (hwx2.lt b hwx2.kb)).trans hT1) (ha.move b2.size fun k hk => b2.block k (ha.lt k hk)) hO1 (hr1.moved hwx2.lt fun k hk _ => b2.block k (hwx2.lt k hk)) hB hTr
          have HV := Lib.hid hV
          have H2 := Lib.hid (And.intro (hwk.trans hwk2) (And.intro bV hme))
          clear hV
          clear hwk lt kb hT hO hr hB hTr hf ha hwx2 hwk2 hO1 hT1 hr1 bV hTu hme c0 c1 c2 c3
          go_wp2_with (fail)
          rw [HV.out]
          go_region_with
            (go_at_call 64
             refine (cE _ (Below.drew (Below.refl _ _))).mono ?_
             clear cE
             rintro e w3 ⟨K3, ops', tries', n', out', rfl, hwk3, hwi3, hR⟩
             have cM := more_all hw hwi3 hR
             obtain ⟨left3, dn3, hT3, -⟩ := hwi3.ex
             have hTu := hT3
             unfold wrC at hTu
             obtain ⟨f0, f1, f2, f3, -⟩ := blk15 hTu
             have H3 := Lib.hid (And.intro hwk3 (And.intro hwi3 hR))
             clear hwk3 hwi3 hR hTu hT3)
          all_goals go_wp2_with (fail)
          all_goals refine cM.mono ?_
          all_goals clear cM
          all_goals rintro e w4 (⟨rfl, rfl, rfl⟩ | ⟨t, rt', OA', p', f', rfl, hwi4, hf4, ha4, hn4, hB4, hT4⟩)
          all_goals first
            | (obtain ⟨hwk3, hwi3, hR⟩ := H3.out
               obtain ⟨-, -, -, -, -, -, -, -, -, -, -, -, -, -, -, z0, z3, -⟩ := blk15 hwi3.ex.choose_spec.choose_spec.1
               clear hwk3 hwi3 hR
               go_wp2
               obtain ⟨hwk3, hwi3, hR⟩ := H3.out
               obtain ⟨h1, h2⟩ := rest_nil hR (.done o)
               have hx := next_off (q := q) (p := .done o) hwi3
               have hl := hR.less
               refine ⟨Lib.hid ⟨K3, (H2.out.1.trans ((WK.below H2.out.2.1).trans ((WK.below (Below.drew (Below.refl _ _))).trans (hwk3.trans (wk_set hwi3.kb _ _))))), ⟨false, _, _, _, _, _, f, hx, h1, h2⟩⟩, ?_⟩
               rw [meas_wx hx, H2.out.2.2]
               exact hl)
            | (obtain ⟨left4, dn4, hT4', -⟩ := hwi4.ex
               obtain ⟨hwk3, hwi3, hR⟩ := H3.out
               have hl := hR.less
               have hx := next_on hwi4 hwi3.lt hn4 ha4
               have hwk4 : WK K3 w3 w4 (fun k => K3 k ∨ OA' k) := ⟨hf4, fun k hk => hk.imp id (hn4 k)⟩
               have H4 := Lib.hid (And.intro hwk3 (And.intro hwk4 (And.intro hx (And.intro hB4 (And.intro hT4 (And.intro hl hwi3.kb))))))
               have hTu := hT4'
               unfold wrC at hTu
               obtain ⟨g0, g1, g2, g3, -, -, -, -, -, -, -, -, -, -, -, z0, z3, -⟩ := blk15 hTu
               clear hTu hT4' hwk3 hwi3 hR hl hx hwk4 hf4 ha4 hn4 hB4 hT4 hwi4
               go_wp2
               obtain ⟨hwk3, hwk4, hx, hB4, hT4, hl, kb3⟩ := H4.out
               refine ⟨Lib.hid ⟨_, (H2.out.1.trans ((WK.below H2.out.2.1).trans ((WK.below (Below.drew (Below.refl _ _))).trans (hwk3.trans (hwk4.trans (wk_set (.inl kb3) _ _)))))), ⟨true, _, _, _, _, _, f', hx, hB4, hT4⟩⟩, ?_⟩
               rw [meas_wx hx, H2.out.2.2]
               exact hl)
end
end Go.Proofs.YtpbhfckefmboaaaGreatDoor.Sy
namespace Go.Proofs.YtpbhfckefmboaaaGreatDoor.Sy
open Go Go.RowKit Go.Lib Go.AS Go.Base Go.Pr Go.Proofs.YtpbhfckefmboaaaGreatDoor.Ba
section
variable {l : Lg} {q : Nat} {W W' : World} {b : Nat} {K OA : Nat → Prop} {T : Pr An WrO} {g : Bool} {now left dn : Value} {ops : List OpN} {tries n : Int} {out : List Snt} {p : Pr An Ot}
theorem treeW_ask {f : Nat} (hB : WB f q true p ops tries n out) (ha : isAsk p) : ∃ po pa pk K, p = .ask po pa pk ∧ treeW (lgN l) f true p ops tries n out = .ask ⟨out, po.s, po.has⟩ pa K := by
  cases ops with
  | nil => exact absurd rfl (hB.some_ rfl)
  | cons o rest =>
    cases p with
    | done o => exact absurd ha id
    | ask po pa pk => exact ⟨po, pa, pk, _, rfl, rfl⟩
theorem treeW_off {f : Nat} : treeW (lgN l) f false p ops tries n out = .done ⟨out, noSlt, false⟩ := by cases ops <;> rfl
/-- what is told of what is done -/
theorem wr_done (h : WR l T q W b K) : ∃ now g left tries n dn out, W.heap[b]? = some (.cells (wrC b now g l left tries n dn) 142) ∧ W.ownsRow 0 71 8 dn out.length (out.flatMap sntC) ∧ T.obs.sent = out ∧ out.length ≤ 100 := by
  obtain ⟨g, p, ops, tries, n, out, f, ⟨lt, kb, now, left, dn, OA, hT, hA, hO, hr⟩, hB, hTr, hg⟩ := h
  refine ⟨now, g, left, tries, n, dn, out, hT, hr.row, ?_, by have := hB.len; omega⟩
  cases g with
  | false => rw [hTr, treeW_off]; rfl
  | true =>
    obtain ⟨po, pa, pk, _, rfl, e⟩ := treeW_ask (l := l) hB (hg rfl)
    rw [hTr, e]; rfl
/-- a writer is moved with its blocks -/
theorem WR.move (h : WR l T q W b K) (hs : W.heap.size ≤ W'.heap.size) (hkk : ∀ k, K k → W'.heap[k]? = W.heap[k]?) : WR l T q W' b K := by
  obtain ⟨g, p, ops, tries, n, out, f, hwx, hB, hTr, hg⟩ := h
  exact ⟨g, p, ops, tries, n, out, f, hwx.move hs hkk, hB, hTr, hg⟩
theorem WR.lt (h : WR l T q W b K) : ∀ k, K k → k < W.heap.size := by
  obtain ⟨g, p, ops, tries, n, out, f, hwx, hB, hTr, hg⟩ := h
  exact hwx.lt
theorem WR.kb (h : WR l T q W b K) : K b := by
  obtain ⟨g, p, ops, tries, n, out, f, hwx, hB, hTr, hg⟩ := h
  exact hwx.kb
/-- a writer that begins: nothing is going yet -/
theorem next_onG {w4 : World} {s : Nat} {act : Value} (h : WI l w4 b K g now ops tries n out) (lts : ∀ k, K k → k < s) (hOA : ∀ k, OA k → s ≤ k) (ha : AX l q p act w4 OA) :
    WX l q ((w4.setCell ⟨b, 0, none⟩ act).setCell ⟨b, 3, none⟩ (.bool true)) b (fun k => K k ∨ OA k) true p ops tries n out := by
  obtain ⟨lt, kb, left, dn, hT, hr⟩ := h
  have o4 : Only b w4 ((w4.setCell ⟨b, 0, none⟩ act).setCell ⟨b, 3, none⟩ (.bool true)) := (Only.set _ _ _).trans (Only.set _ _ _)
  have h4 := setc (C' := wrC b act true l left tries n dn) (setc (C' := wrC b act g l left tries n dn) hT 0 act) 3 (.bool true)
  have hk : ∀ k, k < w4.heap.size → k ≠ b → _ := fun k h1 h2 => o4.block k h1 h2
  have hob : ∀ k, OA k → k ≠ b := fun k hk e => by have := hOA k hk; have := lts b kb; omega
  have hok : ∀ k, K k → ¬ OA k := fun k h1 h2 => by have := lts k h1; have := hOA k h2; omega
  refine ⟨fun k hk => ?_, .inl kb, act, left, dn, OA, h4, fun _ => ha.move o4.size fun k h => hk k (ha.lt k h) (hob k h), fun k hk => ⟨.inr hk, hob k hk⟩, ⟨hr.left.move (fun k h1 h2 => hk k h2 h1.2.1) fun k h1 h2 => ⟨.inl h1.1, h1.2.1, hok k h1.1, h1.2.2.2⟩, own_at hr.row fun g hg => hk g (lt g (hr.own g hg).1) (hr.own g hg).2.1, fun k hg => ⟨.inl (hr.own k hg).1, (hr.own k hg).2.1, hok k (hr.own k hg).1⟩⟩⟩
  rcases hk with hk | hk
  · exact Nat.lt_of_lt_of_le (lt k hk) o4.size
  · exact Nat.lt_of_lt_of_le (ha.lt k hk) o4.size
theorem next_offG {w4 : World} (h : WI l w4 b K g now ops tries n out) :
    WX l q ((w4.setCell ⟨b, 0, none⟩ .nilIface).setCell ⟨b, 3, none⟩ (.bool false)) b K false p ops tries n out := by
  obtain ⟨lt, kb, left, dn, hT, hr⟩ := h
  have o4 : Only b w4 ((w4.setCell ⟨b, 0, none⟩ .nilIface).setCell ⟨b, 3, none⟩ (.bool false)) := (Only.set _ _ _).trans (Only.set _ _ _)
  have h4 := setc (C' := wrC b .nilIface false l left tries n dn) (setc (C' := wrC b .nilIface g l left tries n dn) hT 0 .nilIface) 3 (.bool false)
  exact ⟨fun k hk => Nat.lt_of_lt_of_le (lt k hk) o4.size, kb, _, left, dn, fun _ => False, h4, fun h => (by cases h), fun k hk => absurd hk id, hr.moved lt fun k h1 h2 => o4.block k (lt k h1) h2⟩
set_option maxRecDepth 1000000 in
set_option maxHeartbeats 3200000 in
theorem chain_start (hw : l.ok) {m f : Nat} (h : WI l W b K g now ops tries n out) (hR : Rest l T f q ops tries n out m) :
    Calls Tryz.prog 65 #[.pointer (some ⟨b, 0, none⟩)] W fun e w' => ∃ K', e = .returned (.tuple #[]) ∧ WK K W w' K' ∧ WR l T q w' b K' := by
  have cM := more_all hw h hR
  have HX := Lib.hid (And.intro h hR)
  obtain ⟨lt, kb, left, dn, hT, hr⟩ := h
  have hTu := hT
  unfold wrC at hTu
  obtain ⟨c0, c1, c2, c3, -, -, -, -, -, -, -, -, -, -, -, y0, y3, -⟩ := blk15 hTu
  clear hT hr lt kb hR hTu
  go_enter Tryz.func65, Tryz.ntmps65
  go_wp2_with (fail)
  refine cM.mono ?_
  clear cM
  rintro e w4 (⟨hops, rfl, rfl⟩ | ⟨t, rt', OA', p', f', rfl, hwi4, hf4, ha4, hn4, hB4, hT4⟩)
  · subst hops
    obtain ⟨h, hR⟩ := HX.out
    obtain ⟨h1, h2⟩ := rest_nil hR (.done ⟨noSlt, false, 0, 0⟩)
    have hx := next_offG (q := q) (p := .done ⟨noSlt, false, 0, 0⟩) h
    have cS := settle hw (T := T) ⟨false, _, _, _, _, _, f, hx, h1, h2⟩
    have H2 := Lib.hid h.kb
    clear h hR h1 h2 hx
    go_wp2_with (fail)
    refine cS.mono ?_
    clear cS
    rintro e w2 ⟨K2, rfl, hk2, hr2⟩
    have H3 := Lib.hid (And.intro hk2 hr2)
    clear hk2 hr2
    go_wp2
    go_returns
    exact ⟨K2, rfl, (wk_set H2.out _ _).trans H3.out.1, H3.out.2⟩
  · obtain ⟨h, hR⟩ := HX.out
    have hx := next_onG hwi4 h.lt hn4 ha4
    have cS := settle hw (T := T) ⟨true, _, _, _, _, _, f', hx, hB4, hT4⟩
    have hwk4 : WK K W w4 (fun k => K k ∨ OA' k) := ⟨hf4, fun k hk => hk.imp id (hn4 k)⟩
    obtain ⟨left4, dn4, hT4', -⟩ := hwi4.ex
    have H2 := Lib.hid (And.intro h.kb hwk4)
    have hTu := hT4'
    unfold wrC at hTu
    clear c0 c1 c2 c3 y0 y3
    obtain ⟨c0, c1, c2, c3, -, -, -, -, -, -, -, -, -, -, -, y0, y3, -⟩ := blk15 hTu
    clear h hR hx hwk4 hT4' hTu hwi4 hf4 ha4 hn4 hB4 hT4
    go_wp2_with (fail)
    refine cS.mono ?_
    clear cS
    rintro e w2 ⟨K2, rfl, hk2, hr2⟩
    have H3 := Lib.hid (And.intro hk2 hr2)
    clear hk2 hr2
    go_wp2
    go_returns
    exact ⟨K2, rfl, H2.out.2.trans ((wk_set (.inl H2.out.1) _ _).trans H3.out.1), H3.out.2⟩
end
end Go.Proofs.YtpbhfckefmboaaaGreatDoor.Sy
namespace Go.Proofs.YtpbhfckefmboaaaGreatDoor.Sy
open Go Go.RowKit Go.Lib Go.AS Go.Base Go.Pr Go.Proofs.YtpbhfckefmboaaaGreatDoor.Ba
/-- bytes are cloned, whatever they are -/
theorem cloneAny (ba : Option Addr) (bc : Nat) (B : List Nat) (hbn : B.length ≤ 1000) (hB : ∀ x ∈ B, x < 256) (w : World) (hr : RowAt w ba B) : Calls Tryz.prog 62 #[.slice ba B.length bc] w fun e w' => ∃ pa pc, e = .returned (.slice pa B.length pc) ∧ B.length ≤ pc ∧ Below w.heap.size w w' ∧ RowK w' [] noTau (fun k => w.heap.size ≤ k) pa B := by
  by_cases h : ba = none
  · subst h
    obtain rfl := row_nil hr
    refine (clone_nil 0 bc w).mono ?_
    rintro e w' ⟨rfl, hb⟩
    exact ⟨none, 0, rfl, Nat.le_refl _, hb, fun j x hx => by cases hx⟩
  · refine (cloneP ba B.length bc B rfl hbn hB h w hr).mono ?_
    rintro e w' ⟨g, cap, C, rfl, h1, h2, h3, h4, h5⟩
    refine ⟨_, cap, rfl, h1, h5, fun j x hx => ⟨g, 0, rfl, fun i hi => absurd hi (Nat.not_lt_zero _), h2, ?_⟩⟩
    simp only [World.cell?, h3, Nat.zero_add]
    exact h4 j x hx
/-- cells of acts: their kinds, and where their bytes lie -/
def opC : List OpN → List (Option Addr × Nat) → List Value
  | o :: os, p :: ps => .int .i64 o.kind :: .slice p.1 o.data.length p.2 :: opC os ps
  | _, _ => []
theorem opC_append : ∀ (os : List OpN) (ps : List (Option Addr × Nat)) (o : OpN) (p : Option Addr × Nat), ps.length = os.length → opC (os ++ [o]) (ps ++ [p]) = opC os ps ++ [.int .i64 o.kind, .slice p.1 o.data.length p.2]
  | [], [], _, _, _ => rfl
  | [], _ :: _, _, _, h => by cases h
  | _ :: _, [], _, _, h => by cases h
  | a :: os, c :: ps, o, p, h => by
    show _ :: _ :: opC (os ++ [o]) (ps ++ [p]) = _ :: _ :: (opC os ps ++ _)
    rw [opC_append os ps o p (by simpa using h)]
theorem opC_at : ∀ (os : List OpN) (ps : List (Option Addr × Nat)), ps.length = os.length → ∀ (j : Nat) (o : OpN), os[j]? = some o → ∃ p, ps[j]? = some p ∧ (opC os ps)[2 * j]? = some (.int .i64 o.kind) ∧ (opC os ps)[2 * j + 1]? = some (.slice p.1 o.data.length p.2)
  | [], _, _, _, _, h => by cases h
  | _ :: _, [], h, _, _, _ => by cases h
  | a :: os, c :: ps, h, 0, o, hj => by
    injection hj with hj
    subst hj
    exact ⟨c, rfl, rfl, rfl⟩
  | a :: os, c :: ps, h, j + 1, o, hj => by
    obtain ⟨p, h1, h2, h3⟩ := opC_at os ps (by simpa using h) j o hj
    refine ⟨p, h1, ?_, ?_⟩
    · rw [show 2 * (j + 1) = 2 * j + 1 + 1 by omega]; exact h2
    · rw [show 2 * (j + 1) + 1 = 2 * j + 1 + 1 + 1 by omega]; exact h3
/-- a writer's cells while it is made -/
def wr0C (l : Lg) (left : Value) (tries : Int) : Array Value := #[.nilIface, .nilFunc, .nilFunc, .bool false, .int .i64 l.base, .int .i64 l.term, .int .i64 l.mtu, .int .i64 l.subs, .int .i32 l.ini, .int .i32 l.ses, .int .i32 l.str, left, .int .i64 tries, .int .i64 0, .slice none 0 0]
/-- acts that were laid aside, in blocks from some block on -/
structure LeftK (S : Nat) (w : World) (v : Value) (os : List OpN) : Prop where
  ex : ∃ ps : List (Option Addr × Nat), ps.length = os.length ∧ w.ownsRow S 53 2 v os.length (opC os ps) ∧ ∀ (j : Nat) (o : OpN) (p : Option Addr × Nat), os[j]? = some o → ps[j]? = some p → RowK w [] noTau (fun k => S ≤ k ∧ v.ownBlock ≠ some k) p.1 o.data
theorem LeftK.ops {S : Nat} {w : World} {v : Value} {os : List OpN} (h : LeftK S w v os) {K : Nat → Prop} (hK : ∀ k, S ≤ k → k < w.heap.size → K k) : OpsAt w K v os := by
  obtain ⟨ps, hl, hown, hrow⟩ := h
  obtain ⟨ca, cc, rfl⟩ := own_slice hown
  rcases hown.2 with ⟨e, h0⟩ | ⟨g, cap, cur, e, hg, hob, hn, _⟩
  · injection e with e1 e2 e3
    refine ⟨ca, _, cc, rfl, rfl, by omega, fun j o hj => ?_⟩
    have : os = [] := List.eq_nil_of_length_eq_zero h0
    subst this; cases hj
  · injection e with e1 e2 e3
    subst e1 e3
    refine ⟨_, _, cc, rfl, rfl, hn, fun j o hj => ?_⟩
    obtain ⟨p, h1, h2, h3⟩ := opC_at os ps hl j o hj
    have hlt : g < w.heap.size := (Array.getElem?_eq_some_iff.1 hob).1
    have c1 := hown.cells rfl _ _ h2
    have c2 := hown.cells rfl _ _ h3
    rw [Addr.add_lit] at c1 c2
    refine ⟨g, 0, p.1, p.2, rfl, hK g hg hlt, c1, by rw [Nat.zero_add] at c2 ⊢; exact c2, fun i x hx => ?_⟩
    obtain ⟨bb, bo, e2, hn', ⟨hb, _⟩, hc⟩ := hrow j o p hj h1 i x hx
    exact ⟨bb, bo, e2, hn', hK bb hb (World.block_lt_of_cell? w _ hc), hc⟩
theorem LeftK.nil {S : Nat} {w : World} : LeftK S w (.slice none 0 0) [] := ⟨[], rfl, World.ownsRow_nil _ _ _ _, fun j o p hj => by cases hj⟩
theorem own_atS {w w' : World} {S : Nat} {e : TypeId} {size n : Nat} {v : Value} {xs : List Value} (h : w.ownsRow S e size v n xs) (hk : ∀ g, v.ownBlock = some g → w'.heap[g]? = w.heap[g]?) : w'.ownsRow S e size v n xs := by
  refine ⟨h.1, ?_⟩
  rcases h.2 with h1 | ⟨g, cap, cur, rfl, hb, hg, r⟩
  · exact .inl h1
  · exact .inr ⟨g, cap, cur, rfl, hb, (hk g rfl).trans hg, r⟩
theorem LeftK.move {S : Nat} {w w' : World} {v : Value} {os : List OpN} (h : LeftK S w v os) (hk : ∀ k, S ≤ k → k < w.heap.size → w'.heap[k]? = w.heap[k]?) : LeftK S w' v os := by
  obtain ⟨ps, hl, hown, hrow⟩ := h
  refine ⟨ps, hl, own_atS hown fun g hg => hk g (hown.lt g hg).1 (hown.lt g hg).2, fun j o p h1 h2 i x hx => ?_⟩
  obtain ⟨bb, bo, e2, hn', hb, hc⟩ := hrow j o p h1 h2 i x hx
  exact ⟨bb, bo, e2, hn', hb, (cell_same (hk bb hb.1 (World.block_lt_of_cell? w _ hc))).trans hc⟩
/-- one act more -/
theorem LeftK.more {S : Nat} {w D w' : World} {v v' : Value} {os : List OpN} {o : OpN} {pa : Option Addr} {pc : Nat} (h : LeftK S w v os) (hD : Below w.heap.size w D) (hr : RowK D [] noTau (fun k => w.heap.size ≤ k) pa o.data) (hS : S ≤ w.heap.size)
    (r1 : ∀ ps, ps.length = os.length → w.ownsRow S 53 2 v os.length (opC os ps) → w'.ownsRow S 53 2 v' (os.length + 1) (opC os ps ++ [.int .i64 o.kind, .slice pa o.data.length pc])) (r2 : D.grownBy w' v.ownBlock) (r3 : v'.ownBlock = v.ownBlock ∨ v'.ownBlock = some D.heap.size) : LeftK S w' v' (os ++ [o]) := by
  obtain ⟨ps, hl, hown, hrow⟩ := h
  have hDs := hD.size
  refine ⟨ps ++ [(pa, pc)], by simp [hl], ?_, fun j o' p h1 h2 i x hx => ?_⟩
  · rw [opC_append os ps o (pa, pc) hl, List.length_append]
    exact r1 ps hl hown
  · by_cases hj : j < os.length
    · rw [List.getElem?_append_left hj] at h1
      rw [List.getElem?_append_left (by omega)] at h2
      obtain ⟨bb, bo, e2, hn', ⟨hb, hv⟩, hc⟩ := hrow j o' p h1 h2 i x hx
      have hlt : bb < w.heap.size := World.block_lt_of_cell? w _ hc
      refine ⟨bb, bo, e2, hn', ⟨hb, fun e => ?_⟩, (cell_same ((r2.block bb (by omega) fun e => hv e.symm).trans (hD.block bb hlt))).trans hc⟩
      rcases r3 with r3 | r3
      · exact hv (r3 ▸ e)
      · rw [r3] at e; injection e with e; omega
    · have hj2 : j = os.length := by
        have := (List.getElem?_eq_some_iff.1 h1).1
        simp at this; omega
      subst hj2
      rw [List.getElem?_append_right (Nat.le_refl _), Nat.sub_self] at h1
      rw [List.getElem?_append_right (by omega), hl, Nat.sub_self] at h2
      injection h1 with h1; injection h2 with h2
      subst h1 h2
      obtain ⟨bb, bo, e2, hn', hb, hc⟩ := hr i x hx
      have hlt : bb < D.heap.size := World.block_lt_of_cell? D _ hc
      have hne : v.ownBlock ≠ some bb := fun e => by have := (hown.lt bb e).2; omega
      refine ⟨bb, bo, e2, hn', ⟨by omega, fun e => ?_⟩, (cell_same (r2.block bb hlt fun e => hne e.symm)).trans hc⟩
      rcases r3 with r3 | r3
      · exact hne (r3 ▸ e)
      · rw [r3] at e; injection e with e; omega
end Go.Proofs.YtpbhfckefmboaaaGreatDoor.Sy
