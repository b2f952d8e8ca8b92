/- WwL, WwH, WwM: in one text. -/
import Derived.Test.YtpbhfckefmboaaaGreatDoorGp21
import Derived.Deep.RegionWith
set_option linter.unusedVariables false
set_option linter.unusedSimpArgs false
set_option linter.unusedSectionVars false
namespace Go.Proofs.YtpbhfckefmboaaaGreatDoor.Sy
open Go Go.RowKit Go.Lib Go.AS Go.Base Go.Pr Go.Proofs.YtpbhfckefmboaaaGreatDoor.Ba
section
variable {l : Lg} {q : Nat} {W W' : World} {b : Nat} {K OA : Nat → Prop} {g : Bool} {now left dn : Value} {ops : List OpN} {tries n : Int} {out : List Snt} {o : Ot}
theorem resX {v : Value} {rt : Nat × Nat} {fN fR fS : Nat} {s : Slt} {oh : Bool} {op oe : Int} {O : Nat → Prop} (h : Acts l q (.done ⟨s, oh, op, oe⟩) v W O rt fN fR fS) : Calls Tryz.prog fR #[ptrV rt] W fun e w' => e = .returned (.tuple #[.int .i64 op, .int .i64 oe]) ∧ Frm O W w' ∧ AX l q (.done ⟨s, oh, op, oe⟩) v w' (Grow O W w') := h.result id
theorem slotX {v : Value} {rt : Nat × Nat} {fN fR fS : Nat} {sp st so sz op oe : Int} {oh : Bool} {O : Nat → Prop} (h : Acts l q (.done ⟨⟨sp, st, so, sz⟩, oh, op, oe⟩) v W O rt fN fR fS) : Calls Tryz.prog fS #[ptrV rt] W fun e w' => e = .returned (.tuple #[.agg #[.int .i64 sp, .int .i32 st, .int .i64 so, .int .i64 sz], .bool oh]) ∧ Frm O W w' ∧ AX l q (.done ⟨⟨sp, st, so, sz⟩, oh, op, oe⟩) v w' (Grow O W w') := h.slot id
theorem setw14 (h : W.heap[b]? = some (.cells (wrC b now true l left tries n dn) 142)) (u : Value) : (W.setCell ⟨b, 14, none⟩ u).heap[b]? = some (.cells (wrC b now true l left tries n u) 142) := setc h 14 u
theorem setw11 (h : W.heap[b]? = some (.cells (wrC b now true l left tries n dn) 142)) (u : Value) : (W.setCell ⟨b, 11, none⟩ u).heap[b]? = some (.cells (wrC b now true l u tries n dn) 142) := setc h 11 u
theorem setw13 (h : W.heap[b]? = some (.cells (wrC b now true l left tries n dn) 142)) : (W.setCell ⟨b, 13, none⟩ (.int .i64 0)).heap[b]? = some (.cells (wrC b now true l left tries 0 dn) 142) := setc h 13 _
set_option maxRecDepth 1000000 in
set_option maxHeartbeats 32000000 in
theorem ended_done (lt : ∀ k, K k → k < W.heap.size) (kb : K b) (hT : W.heap[b]? = some (.cells (wrC b now true l left tries n dn) 142)) (hA : AX l q (.done o) now W OA) (hO : ∀ k, OA k → K k ∧ k ≠ b) {op1 : OpN} (hr : RX W b K OA left dn (op1 :: ops) out) (he : ¬ (o.e = 5 ∨ o.e = 6)) (hlen : out.length ≤ 1000 ∧ ops.length ≤ 1000) :
    Calls Tryz.prog 64 #[.pointer (some ⟨b, 0, none⟩), now] W fun e w' => ∃ K', e = .returned (.tuple #[]) ∧ WK K W w' K' ∧ WI l w' b K' true now ops tries 0 (out ++ [⟨o.pos, o.e, n, o.s, o.has⟩]) := by
  obtain ⟨⟨⟨sp, st, so, sz⟩, oh, op, oe⟩, rfl⟩ : ∃ o', o = o' := ⟨_, rfl⟩
  have n5 : (oe == 5) = false := by have : ¬ oe = 5 := fun h => he (.inl h); simp [this]
  have n6 : (oe == 6) = false := by have : ¬ oe = 6 := fun h => he (.inr h); simp [this]
  clear he
  obtain ⟨i0, hi78, iz0, iz1, iz2⟩ := info_parts Tryz_info71
  obtain ⟨gb, go, lc, rfl, hlc⟩ : ∃ gb go lc, left = .slice (some ⟨gb, go, none⟩) (ops.length + 1) lc ∧ ops.length + 1 ≤ lc := by
    obtain ⟨la, ln, lc, e, h1, h2, h3⟩ := hr.left
    obtain ⟨gb, go, _, _, e2, _⟩ := h3 0 op1 rfl
    subst e2 h1
    exact ⟨gb, go, lc, e, h2⟩
  obtain ⟨rt, hc⟩ := hA.acts
  rcases hc with ⟨rfl, -⟩ | ⟨rfl, -⟩ | ⟨rfl, -⟩
  all_goals
    first | have c := resX (acts136 hA) | have c := resX (acts138 hA) | have c := resX (acts140 hA)
    have HT := Lib.hid (And.intro lt (And.intro kb (And.intro hT (And.intro hO hr))))
    clear hA lt kb hT hO hr
    go_enter Tryz.func64, Tryz.ntmps64
    go_wp2_with (fail)
    refine c.mono ?_
    clear c
    rintro e w1 ⟨rfl, hf, ha⟩
    obtain ⟨lt, kb, hT, hO, hr⟩ := HT.out
    obtain ⟨hwx, hwk⟩ := acted lt kb hT hO hr hf grow_new ha
    have hT1 : w1.heap[b]? = _ := (hf.block b (lt b kb) fun h => (hO b h).2 rfl).trans hT
    have hO1 : ∀ k, Grow OA W w1 k → (K k ∨ Grow OA W w1 k) ∧ k ≠ b := fun k hk => ⟨.inr hk, fun e => by
      subst e
      rcases hk with hk | hk
      · exact (hO k hk).2 rfl
      · have := lt k kb; omega⟩
    have hr1 := RX.acted (O' := Grow OA W w1) hr lt hf grow_new
    obtain ⟨X, hX⟩ : ∃ X, w1.heap.size = X := ⟨_, rfl⟩
    obtain ⟨V, hV⟩ : ∃ V, w1.alloc (.cells #[.int .i64 op, .int .i64 oe, .int .i64 n, .int .i64 0, .int .i32 0, .int .i64 0, .int .i64 0, .bool false] 71) = V := ⟨_, rfl⟩
    have bV : Below X w1 V := by rw [← hV, ← hX]; exact (Below.refl _ _).alloc (Nat.le_refl _) _
    have sV : V.heap.size = X + 1 := by rw [← hV, ← hX]; simp
    have rV : V.heap[X]? = some (.cells #[.int .i64 op, .int .i64 oe, .int .i64 n, .int .i64 0, .int .i32 0, .int .i64 0, .int .i64 0, .bool false] 71) := by rw [← hV, ← hX]; exact heap_new _ _
    have hmv := ha.move (W' := V) bV.size fun k hk => bV.block k (by have := ha.lt k hk; omega)
    first | have c2 := slotX (acts136 hmv) | have c2 := slotX (acts138 hmv) | have c2 := slotX (acts140 hmv)
    clear hmv
    have HV := Lib.hid hV
    clear hV
    have hTu := hT1
    unfold wrC at hTu
    obtain ⟨f0, f1, f2, f3, f4, f5, f6, f7, f8, f9, f10, f11, f12, f13, f14, z0, z3, z11, z12, z13, z14⟩ := blk15 hTu
    have H2 := Lib.hid (And.intro hwk (And.intro hwx (And.intro hT1 (And.intro hO1 (And.intro hr1 (And.intro bV rV))))))
    clear lt kb hT hO hr hf ha hwx hwk hT1 hO1 hr1 hTu bV rV
    go_wp2_with (fail)
    rw [HV.out]
    refine c2.mono ?_
    clear c2
    rintro e w2 ⟨rfl, hf2, ha2⟩
    obtain ⟨hwk, hwx, hT1, hO1, hr1, bV, rV⟩ := H2.out
    have ltV : ∀ k, (K k ∨ Grow OA W w1 k) → k < V.heap.size := fun k hk => by have := hwx.lt k hk; omega
    have hTV : V.heap[b]? = _ := (bV.block b (by have := hwx.lt b hwx.kb; omega)).trans hT1
    have hrV := hr1.moved (W' := V) hwx.lt fun k hk _ => bV.block k (by have := hwx.lt k hk; omega)
    obtain ⟨hwx2, hwk2⟩ := acted ltV hwx.kb hTV hO1 hrV hf2 grow_new ha2
    have hrw2 := RX.acted (O' := Grow (Grow OA W w1) V w2) hrV ltV hf2 grow_new
    have hX1 : ¬ Grow OA W w1 X := fun h => by have := hwx.lt X (.inr h); omega
    have hx2 : w2.heap[X]? = _ := (hf2.block X (by omega) hX1).trans rV
    have hT2 : w2.heap[b]? = _ := (hf2.block b (ltV b hwx.kb) fun h => (hO1 b h).2 rfl).trans hTV
    have hbX : b ≠ X := by have := hwx.lt b hwx.kb; omega
    have h3 := setc (C' := #[.int .i64 op, .int .i64 oe, .int .i64 n, .int .i64 sp, .int .i32 st, .int .i64 so, .int .i64 sz, .bool oh]) (setc (C' := #[.int .i64 op, .int .i64 oe, .int .i64 n, .int .i64 sp, .int .i32 st, .int .i64 so, .int .i64 sz, .bool false]) (setc (C' := #[.int .i64 op, .int .i64 oe, .int .i64 n, .int .i64 sp, .int .i32 st, .int .i64 so, .int .i64 0, .bool false]) (setc (C' := #[.int .i64 op, .int .i64 oe, .int .i64 n, .int .i64 sp, .int .i32 st, .int .i64 0, .int .i64 0, .bool false]) (setc (C' := #[.int .i64 op, .int .i64 oe, .int .i64 n, .int .i64 sp, .int .i32 0, .int .i64 0, .int .i64 0, .bool false]) hx2 3 (.int .i64 sp)) 4 (.int .i32 st)) 5 (.int .i64 so)) 6 (.int .i64 sz)) 7 (.bool oh)
    have o3 : Only X w2 (((((w2.setCell ⟨X, 3, none⟩ (.int .i64 sp)).setCell ⟨X, 4, none⟩ (.int .i32 st)).setCell ⟨X, 5, none⟩ (.int .i64 so)).setCell ⟨X, 6, none⟩ (.int .i64 sz)).setCell ⟨X, 7, none⟩ (.bool oh)) := ((((Only.set _ _ _).trans (Only.set _ _ _)).trans (Only.set _ _ _)).trans (Only.set _ _ _)).trans (Only.set _ _ _)
    obtain ⟨W3, hW3⟩ : ∃ W3, (((((w2.setCell ⟨X, 3, none⟩ (.int .i64 sp)).setCell ⟨X, 4, none⟩ (.int .i32 st)).setCell ⟨X, 5, none⟩ (.int .i64 so)).setCell ⟨X, 6, none⟩ (.int .i64 sz)).setCell ⟨X, 7, none⟩ (.bool oh)) = W3 := ⟨_, rfl⟩
    rw [hW3] at h3 o3
    have hT3 : W3.heap[b]? = _ := (o3.block b (hwx2.lt b hwx2.kb) hbX).trans hT2
    obtain ⟨d0, d1, d2, d3, d4, d5, d6, d7, y0, y1, y2, y3, y4, y5, y6, y7⟩ := blk8 hx2
    obtain ⟨u0, u1, u2, u3, u4, u5, u6, u7, -⟩ := blk8 h3
    have hTu := hT3
    unfold wrC at hTu
    clear f0 f1 f2 f3 f4 f5 f6 f7 f8 f9 f10 f11 f12 f13 f14 z0 z3 z11 z12 z13 z14
    obtain ⟨f0, f1, f2, f3, f4, f5, f6, f7, f8, f9, f10, f11, f12, f13, f14, z0, z3, z11, z12, z13, z14⟩ := blk15 hTu
    have H3 := Lib.hid (And.intro hwx2 (And.intro hwk2 (And.intro hrw2 (And.intro hT3 (And.intro o3 h3)))))
    have hx2' : ∀ k, ((K k ∨ Grow OA W w1 k) ∨ Grow (Grow OA W w1) V w2 k) → k ≠ X := fun k hk => by
      rcases hk with hk | hk | hk
      · have := hwx.lt k hk; omega
      · have := hwx.lt k (.inr hk); omega
      · omega
    have HX2 := Lib.hid hx2'
    clear hx2' hwk hwx hT1 hO1 hr1 bV rV ltV hTV hrV hwx2 hwk2 hrw2 hX1 hx2 hT2 h3 o3 hT3 hTu hf2 ha2
    obtain ⟨Y, hY⟩ : ∃ Y, W3.heap.size = Y := ⟨_, rfl⟩
    go_wp2
    obtain ⟨dD, hdD⟩ : ∃ D, W3.drew.alloc (.cells #[.int .i64 op, .int .i64 oe, .int .i64 n, .int .i64 sp, .int .i32 st, .int .i64 so, .int .i64 sz, .bool oh] 71) = D := ⟨_, rfl⟩
    have hDk : ∀ k, k < Y → (W3.drew.alloc (.cells #[.int .i64 op, .int .i64 oe, .int .i64 n, .int .i64 sp, .int .i32 st, .int .i64 so, .int .i64 sz, .bool oh] 71)).heap[k]? = W3.heap[k]? := fun k hk => ((Below.refl W3.heap.size W3).drew.alloc (Nat.le_refl _) _).block k (by omega)
    have hDo : (W3.drew.alloc (.cells #[.int .i64 op, .int .i64 oe, .int .i64 n, .int .i64 sp, .int .i32 st, .int .i64 so, .int .i64 sz, .bool oh] 71)).ownsRow 0 71 8 dn out.length (out.flatMap sntC) := by
      obtain ⟨hwx2, hwk2, hrw2, hT3, o3, h3⟩ := H3.out
      refine own_at hrw2.row fun g hg => ?_
      have h1 := hwx2.lt g (hrw2.own g hg).1
      have hne : g ≠ X := HX2.out g (hrw2.own g hg).1
      exact (hDk g (by have := o3.size; omega)).trans (o3.block g h1 hne)
    have hDr : (W3.drew.alloc (.cells #[.int .i64 op, .int .i64 oe, .int .i64 n, .int .i64 sp, .int .i32 st, .int .i64 so, .int .i64 sz, .bool oh] 71)).heap[Y]? = some (.cells #[.int .i64 op, .int .i64 oe, .int .i64 n, .int .i64 sp, .int .i32 st, .int .i64 so, .int .i64 sz, .bool oh] 71) := by rw [← hY]; exact heap_new W3.drew _
    have hDn : ∀ (j : Nat) u, [Value.int .i64 op, .int .i64 oe, .int .i64 n, .int .i64 sp, .int .i32 st, .int .i64 so, .int .i64 sz, .bool oh][j]? = some u → (W3.drew.alloc (.cells #[.int .i64 op, .int .i64 oe, .int .i64 n, .int .i64 sp, .int .i32 st, .int .i64 so, .int .i64 sz, .bool oh] 71)).cell? ((⟨Y, 0, none⟩ : Addr).add j) = some u := fun j u hj => by
      rw [Addr.add_lit, Nat.zero_add]
      have hjl := (List.getElem?_eq_some_iff.1 hj).1
      simp only [World.cell?, hDr]
      rcases j with _ | _ | _ | _ | _ | _ | _ | _ | j <;> first | exact hj | (simp at hjl; omega)
    clear hdD dD hDr
    have e14 : (W3.alloc (.cells #[.int .i64 op, .int .i64 oe, .int .i64 n, .int .i64 sp, .int .i32 st, .int .i64 so, .int .i64 sz, .bool oh] 71)).cell? ⟨b, 14, none⟩ = some dn := (cell_same (hDk b (by have := (Array.getElem?_eq_some_iff.1 H3.out.2.2.2.1).1; omega))).trans f14
    have HD := Lib.hid (And.intro hDk (And.intro hDo hDn))
    clear hDk hDo hDn
    go_region_law (refine step_append_own rfl (.tmp 50) (.tmp 52) 61 rfl 0 71 i0 _ 8 64 Tryz.underlying61 hi78 iz0 iz1 iz2 rfl (by decide) dn out.length (out.flatMap sntC) (by simp [Act.eval, Act.put]) HD.out.2.1 ⟨Y, 0, none⟩ 1 1 [.int .i64 op, .int .i64 oe, .int .i64 n, .int .i64 sp, .int .i32 st, .int .i64 so, .int .i64 sz, .bool oh] (by simp [Act.eval, Act.put]) rfl HD.out.2.2 (by intro u hu; simp at hu; rcases hu with rfl | rfl | rfl | rfl | rfl | rfl | rfl | rfl <;> rfl) (by unfold maxLen; omega) (by omega) (Nat.zero_le _) ?_; intro v5 w5 r1 r2 r3; obtain ⟨ca, cc, rfl⟩ := own_slice r1; have hb5 := (r2.block b (by have := (Array.getElem?_eq_some_iff.1 H3.out.2.2.2.1).1; simp; omega) (fun e => (H3.out.2.2.1.own b e.symm).2.1 rfl)).trans ((HD.out.1 b (by have := (Array.getElem?_eq_some_iff.1 H3.out.2.2.2.1).1; omega)).trans H3.out.2.2.2.1); have hu5 := hb5; unfold wrC at hu5; obtain ⟨q0, q1, q2, q3, q4, q5, q6, q7, q8, q9, q10, q11, q12, q13, q14, x0, x3, x11, x12, x13, x14⟩ := blk15 hu5; have H5 := Lib.hid (And.intro r1 (And.intro r2 (And.intro r3 hb5))); clear r1 r2 r3 hb5 hu5)
    all_goals go_wp2
    all_goals go_returns
    all_goals refine ⟨rfl, ?_⟩
    all_goals have h6 := setw14 H5.out.2.2.2 (.slice ca (out.length + 1) cc)
    all_goals first
      | exact ended_end (s := ⟨op, oe, n, ⟨sp, st, so, sz⟩, oh⟩) H2.out.1 HT.out.2.1 hX H2.out.2.2.2.2.2.1 H3.out.2.1 H3.out.1.lt H3.out.1.kb H3.out.2.2.1 HX2.out HT.out.1 H3.out.2.2.2.2.1 ((Below.refl _ _).alloc (Nat.le_refl _) _).drew H5.out.1 H5.out.2.1 H5.out.2.2.1 (((Only.set _ _ _).trans (Only.set _ _ _)).trans (Only.set _ _ _)) (setw13 (setw11 h6 (.slice (some ⟨gb, go + 2, none⟩) ops.length (lc - 1)))) ⟨_, _, rfl, by omega, fun _ => rfl⟩
      | exact ended_end (s := ⟨op, oe, n, ⟨sp, st, so, sz⟩, oh⟩) H2.out.1 HT.out.2.1 hX H2.out.2.2.2.2.2.1 H3.out.2.1 H3.out.1.lt H3.out.1.kb H3.out.2.2.1 HX2.out HT.out.1 H3.out.2.2.2.2.1 ((Below.refl _ _).alloc (Nat.le_refl _) _).drew H5.out.1 H5.out.2.1 H5.out.2.2.1 (((Only.set _ _ _).trans (Only.set _ _ _)).trans (Only.set _ _ _)) (setw13 (setw11 h6 (.slice (some ⟨gb, go, none⟩) ops.length 0))) ⟨_, _, rfl, by omega, fun h => absurd (List.eq_nil_of_length_eq_zero (by omega)) h⟩
end
end Go.Proofs.YtpbhfckefmboaaaGreatDoor.Sy
namespace Go.Proofs.YtpbhfckefmboaaaGreatDoor.Sy
open Go Go.RowKit Go.Lib Go.AS Go.Base Go.Pr Go.Proofs.YtpbhfckefmboaaaGreatDoor.Ba
section
variable {l : Lg} {W W' : World} {b : Nat} {K : Nat → Prop} {g : Bool} {now left dn : Value} {ops : List OpN} {tries n : Int} {out : List Snt}
set_option maxHeartbeats 1600000 in
theorem more_claim1 (hw : l.ok) {o : OpN} (ho : o.kind = 1) (hd : (∀ x ∈ o.data, x < 256) ∧ o.data.length ≤ 1000) (hn : 0 ≤ n ∧ n ≤ 3000) (hln : ops.length ≤ 1000) (h : WI l W b K g now (o :: ops) tries n out) :
    Calls Tryz.prog 63 #[.pointer (some ⟨b, 0, none⟩)] W fun e w' => ∃ act OA, e = .returned (.tuple #[act, .bool true]) ∧ WI l w' b K g now (o :: ops) tries (n + 1) out ∧ Frm K W w' ∧ (∀ q, AX l q (onceT (lgN l) o) act w' OA) ∧ ∀ k, OA k → W.heap.size ≤ k := by
  obtain ⟨lt, kb, left, dn, hT, hr⟩ := h
  obtain ⟨la, ln, lc, rfl, h1, h2, h3⟩ := hr.left
  obtain ⟨gb, go, ba, bc, rfl, hg, g0, g1, hrow⟩ := h3 0 o rfl
  have hbW := lt b kb
  obtain ⟨W1, hW1⟩ : ∃ W1, W.setCell ⟨b, 13, none⟩ (.int .i64 (n + 1)) = W1 := ⟨_, rfl⟩
  have o1 : Only b W W1 := by rw [← hW1]; exact Only.set _ _ _
  have hT1 : W1.heap[b]? = some (.cells (wrC b now g l (.slice (some ⟨gb, go, none⟩) ln lc) tries (n + 1) dn) 142) := by rw [← hW1]; exact setc hT 13 _
  have hgl : gb < W.heap.size := World.block_lt_of_cell? W _ g0
  have gk : W1.heap[gb]? = W.heap[gb]? := o1.block gb hgl hg.2.1
  obtain ⟨X, hX⟩ : ∃ X, W1.heap.size = X := ⟨_, rfl⟩
  obtain ⟨W2, hW2⟩ : ∃ W2, W1.alloc (.cells #[.int .i64 o.kind, .slice ba o.data.length bc] 53) = W2 := ⟨_, rfl⟩
  have b2 : Below X W1 W2 := by rw [← hW2, ← hX]; exact (Below.refl _ _).alloc (Nat.le_refl _) _
  have r2 : W2.heap[X]? = some (.cells #[.int .i64 o.kind, .slice ba o.data.length bc] 53) := by rw [← hW2, ← hX]; exact heap_new _ _
  have s0 := o1.size
  have hrw : ∀ V, Below W2.heap.size W2 V → ∀ w', Below V.heap.size V w' → RowAt w' ba o.data := fun V hV w' hb j x hx => by
    obtain ⟨bb, bo, e, _, hk, hc⟩ := hrow j x hx
    have hl : bb < W.heap.size := World.block_lt_of_cell? W _ hc
    have := b2.size
    have := hV.size
    exact ⟨bb, bo, e, (cell_same ((hb.block bb (by omega)).trans ((hV.block bb (by omega)).trans ((b2.block bb (by omega)).trans (o1.block bb hl hk.2.1))))).trans hc⟩
  have c : ∀ V, Below W2.heap.size W2 V → Calls Tryz.prog 94 #[.agg #[.int .i64 l.base, .int .i64 l.term, .int .i64 l.mtu, .int .i64 l.subs, .int .i32 l.ini, .int .i32 l.ses, .int .i32 l.str], .slice ba o.data.length bc, .bool true] V fun e w' => ∃ rt, e = .returned (ptrV rt) ∧ Below W2.heap.size W2 w' ∧ (∀ q, AX l q (claimT (lgN l) o.data true) (.iface 186 (ptrV rt)) w' (Made V w')) ∧ ∀ k, Made V w' k → W.heap.size ≤ k := fun V hV => by
    refine (claim_made hw hd.1 hd.2 (by have := b2.size; have := hV.size; omega) (hrw V hV)).mono ?_
    rintro e w' ⟨rt, rfl, hb, hax⟩
    refine ⟨rt, rfl, hV.trans (hb.mono hV.size), hax, fun k hk => ?_⟩
    have := b2.size
    have := hV.size
    rcases hk with hk | hk
    · exact absurd hk id
    · omega
  rw [ho] at hW2 r2
  have HT := Lib.hid (And.intro lt (And.intro kb (And.intro hT1 (And.intro hr (And.intro o1 b2)))))
  obtain ⟨f0, f1, f2, f3, f4, f5, f6, f7, f8, f9, f10, f11, f12, f13, f14, -⟩ := blk15 ((b2.block b (by omega)).trans hT1)
  unfold wrC at hT hT1
  obtain ⟨c0, c1, c2, c3, c4, c5, c6, c7, c8, c9, c10, c11, c12, c13, c14, -, -, -, -, z13, -⟩ := blk15 hT
  obtain ⟨d0, d1, d2, d3, d4, d5, d6, d7, d8, d9, d10, d11, d12, d13, d14, -⟩ := blk15 hT1
  have g0' : W.cell? ⟨gb, go, none⟩ = some (.int .i64 1) := by rw [← ho]; exact g0
  have g1' : W.cell? ⟨gb, go + 1, none⟩ = some (.slice ba o.data.length bc) := g1
  have g2 : W1.cell? ⟨gb, go, none⟩ = some (.int .i64 1) := (cell_same gk).trans g0'
  have g3 : W1.cell? ⟨gb, go + 1, none⟩ = some (.slice ba o.data.length bc) := (cell_same gk).trans g1'
  have k0 : W2.cell? ⟨X, 0, none⟩ = some (.int .i64 1) := by simp [World.cell?, r2]
  have k1 : W2.cell? ⟨X, 1, none⟩ = some (.slice ba o.data.length bc) := by simp [World.cell?, r2]
  have hl0 : ((ln : Nat) : Int) ≠ 0 := by rw [h1, List.length_cons]; omega
  have hl1 : (0 : Int) < ((ln : Nat) : Int) := by rw [h1, List.length_cons]; omega
  have w1 : wrap64 (n + 1) = n + 1 := IntWalk.wrap64_in _ (by omega)
  clear hr h3 hT hT1 o1 b2 r2 gk g0 g1 hrow hrw hg lt kb
  go_enter Tryz.func63, Tryz.ntmps63
  go_wp2_with (fail)
  go_region_with
    (go_at_call 94
     refine (c _ (Below.drew (Below.refl _ _))).mono ?_
     clear c
     rintro e w3 ⟨rt, rfl, hb3, hax⟩
     have H3 := Lib.hid (And.intro hb3 hax)
     clear hb3 hax)
  all_goals go_wp2
  all_goals go_ret2
  all_goals obtain ⟨hb3, hax, hnew⟩ := H3.out
  all_goals obtain ⟨lt, kb, hT1, hr, o1, b2⟩ := HT.out
  all_goals obtain ⟨e1, e2⟩ := wi_set lt kb hT1 hr o1 (hX.symm ▸ b2.trans (hb3.mono (by have := b2.size; omega)))
  all_goals exact ⟨_, _, rfl, e1, e2, fun q => by rw [show onceT (lgN l) o = claimT (lgN l) o.data true by unfold onceT; rw [ho]; rfl]; exact hax q, hnew⟩
set_option maxHeartbeats 1600000 in
theorem more_claim2 (hw : l.ok) {o : OpN} (ho : o.kind = 2) (hd : (∀ x ∈ o.data, x < 256) ∧ o.data.length ≤ 1000) (hn : 0 ≤ n ∧ n ≤ 3000) (hln : ops.length ≤ 1000) (h : WI l W b K g now (o :: ops) tries n out) :
    Calls Tryz.prog 63 #[.pointer (some ⟨b, 0, none⟩)] W fun e w' => ∃ act OA, e = .returned (.tuple #[act, .bool true]) ∧ WI l w' b K g now (o :: ops) tries (n + 1) out ∧ Frm K W w' ∧ (∀ q, AX l q (onceT (lgN l) o) act w' OA) ∧ ∀ k, OA k → W.heap.size ≤ k := by
  obtain ⟨lt, kb, left, dn, hT, hr⟩ := h
  obtain ⟨la, ln, lc, rfl, h1, h2, h3⟩ := hr.left
  obtain ⟨gb, go, ba, bc, rfl, hg, g0, g1, hrow⟩ := h3 0 o rfl
  have hbW := lt b kb
  obtain ⟨W1, hW1⟩ : ∃ W1, W.setCell ⟨b, 13, none⟩ (.int .i64 (n + 1)) = W1 := ⟨_, rfl⟩
  have o1 : Only b W W1 := by rw [← hW1]; exact Only.set _ _ _
  have hT1 : W1.heap[b]? = some (.cells (wrC b now g l (.slice (some ⟨gb, go, none⟩) ln lc) tries (n + 1) dn) 142) := by rw [← hW1]; exact setc hT 13 _
  have hgl : gb < W.heap.size := World.block_lt_of_cell? W _ g0
  have gk : W1.heap[gb]? = W.heap[gb]? := o1.block gb hgl hg.2.1
  obtain ⟨X, hX⟩ : ∃ X, W1.heap.size = X := ⟨_, rfl⟩
  obtain ⟨W2, hW2⟩ : ∃ W2, W1.alloc (.cells #[.int .i64 o.kind, .slice ba o.data.length bc] 53) = W2 := ⟨_, rfl⟩
  have b2 : Below X W1 W2 := by rw [← hW2, ← hX]; exact (Below.refl _ _).alloc (Nat.le_refl _) _
  have r2 : W2.heap[X]? = some (.cells #[.int .i64 o.kind, .slice ba o.data.length bc] 53) := by rw [← hW2, ← hX]; exact heap_new _ _
  have s0 := o1.size
  have hrw : ∀ V, Below W2.heap.size W2 V → ∀ w', Below V.heap.size V w' → RowAt w' ba o.data := fun V hV w' hb j x hx => by
    obtain ⟨bb, bo, e, _, hk, hc⟩ := hrow j x hx
    have hl : bb < W.heap.size := World.block_lt_of_cell? W _ hc
    have := b2.size
    have := hV.size
    exact ⟨bb, bo, e, (cell_same ((hb.block bb (by omega)).trans ((hV.block bb (by omega)).trans ((b2.block bb (by omega)).trans (o1.block bb hl hk.2.1))))).trans hc⟩
  have c : ∀ V, Below W2.heap.size W2 V → Calls Tryz.prog 94 #[.agg #[.int .i64 l.base, .int .i64 l.term, .int .i64 l.mtu, .int .i64 l.subs, .int .i32 l.ini, .int .i32 l.ses, .int .i32 l.str], .slice ba o.data.length bc, .bool false] V fun e w' => ∃ rt, e = .returned (ptrV rt) ∧ Below W2.heap.size W2 w' ∧ (∀ q, AX l q (claimT (lgN l) o.data false) (.iface 186 (ptrV rt)) w' (Made V w')) ∧ ∀ k, Made V w' k → W.heap.size ≤ k := fun V hV => by
    refine (claim_made hw hd.1 hd.2 (by have := b2.size; have := hV.size; omega) (hrw V hV)).mono ?_
    rintro e w' ⟨rt, rfl, hb, hax⟩
    refine ⟨rt, rfl, hV.trans (hb.mono hV.size), hax, fun k hk => ?_⟩
    have := b2.size
    have := hV.size
    rcases hk with hk | hk
    · exact absurd hk id
    · omega
  rw [ho] at hW2 r2
  have HT := Lib.hid (And.intro lt (And.intro kb (And.intro hT1 (And.intro hr (And.intro o1 b2)))))
  obtain ⟨f0, f1, f2, f3, f4, f5, f6, f7, f8, f9, f10, f11, f12, f13, f14, -⟩ := blk15 ((b2.block b (by omega)).trans hT1)
  unfold wrC at hT hT1
  obtain ⟨c0, c1, c2, c3, c4, c5, c6, c7, c8, c9, c10, c11, c12, c13, c14, -, -, -, -, z13, -⟩ := blk15 hT
  obtain ⟨d0, d1, d2, d3, d4, d5, d6, d7, d8, d9, d10, d11, d12, d13, d14, -⟩ := blk15 hT1
  have g0' : W.cell? ⟨gb, go, none⟩ = some (.int .i64 2) := by rw [← ho]; exact g0
  have g1' : W.cell? ⟨gb, go + 1, none⟩ = some (.slice ba o.data.length bc) := g1
  have g2 : W1.cell? ⟨gb, go, none⟩ = some (.int .i64 2) := (cell_same gk).trans g0'
  have g3 : W1.cell? ⟨gb, go + 1, none⟩ = some (.slice ba o.data.length bc) := (cell_same gk).trans g1'
  have k0 : W2.cell? ⟨X, 0, none⟩ = some (.int .i64 2) := by simp [World.cell?, r2]
  have k1 : W2.cell? ⟨X, 1, none⟩ = some (.slice ba o.data.length bc) := by simp [World.cell?, r2]
  have hl0 : ((ln : Nat) : Int) ≠ 0 := by rw [h1, List.length_cons]; omega
  have hl1 : (0 : Int) < ((ln : Nat) : Int) := by rw [h1, List.length_cons]; omega
  have w1 : wrap64 (n + 1) = n + 1 := IntWalk.wrap64_in _ (by omega)
  clear hr h3 hT hT1 o1 b2 r2 gk g0 g1 hrow hrw hg lt kb
  go_enter Tryz.func63, Tryz.ntmps63
  go_wp2_with (fail)
  go_region_with
    (go_at_call 94
     refine (c _ (Below.drew (Below.refl _ _))).mono ?_
     clear c
     rintro e w3 ⟨rt, rfl, hb3, hax⟩
     have H3 := Lib.hid (And.intro hb3 hax)
     clear hb3 hax)
  all_goals go_wp2
  all_goals go_ret2
  all_goals obtain ⟨hb3, hax, hnew⟩ := H3.out
  all_goals obtain ⟨lt, kb, hT1, hr, o1, b2⟩ := HT.out
  all_goals obtain ⟨e1, e2⟩ := wi_set lt kb hT1 hr o1 (hX.symm ▸ b2.trans (hb3.mono (by have := b2.size; omega)))
  all_goals exact ⟨_, _, rfl, e1, e2, fun q => by rw [show onceT (lgN l) o = claimT (lgN l) o.data false by unfold onceT; rw [ho]; rfl]; exact hax q, hnew⟩
end
end Go.Proofs.YtpbhfckefmboaaaGreatDoor.Sy
namespace Go.Proofs.YtpbhfckefmboaaaGreatDoor.Sy
open Go Go.RowKit Go.Lib Go.AS Go.Base Go.Pr Go.Proofs.YtpbhfckefmboaaaGreatDoor.Ba
section
variable {l : Lg} {W W' : World} {b : Nat} {K : Nat → Prop} {g : Bool} {now left dn : Value} {ops : List OpN} {tries n : Int} {out : List Snt}
set_option maxHeartbeats 1600000 in
theorem more_wrong {o : OpN} (h0 : ¬ o.kind = 0) (h1' : ¬ o.kind = 1) (h2' : ¬ o.kind = 2) (hn : 0 ≤ n ∧ n ≤ 3000) (hln : ops.length ≤ 1000) (h : WI l W b K g now (o :: ops) tries n out) :
    Calls Tryz.prog 63 #[.pointer (some ⟨b, 0, none⟩)] W fun e w' => ∃ act OA, e = .returned (.tuple #[act, .bool true]) ∧ WI l w' b K g now (o :: ops) tries (n + 1) out ∧ Frm K W w' ∧ (∀ q, AX l q (onceT (lgN l) o) act w' OA) ∧ ∀ k, OA k → W.heap.size ≤ k := by
  obtain ⟨lt, kb, left, dn, hT, hr⟩ := h
  obtain ⟨la, ln, lc, rfl, h1, h2, h3⟩ := hr.left
  obtain ⟨gb, go, ba, bc, rfl, hg, g0, g1, hrow⟩ := h3 0 o rfl
  have hbW := lt b kb
  obtain ⟨W1, hW1⟩ : ∃ W1, W.setCell ⟨b, 13, none⟩ (.int .i64 (n + 1)) = W1 := ⟨_, rfl⟩
  have o1 : Only b W W1 := by rw [← hW1]; exact Only.set _ _ _
  have hT1 : W1.heap[b]? = some (.cells (wrC b now g l (.slice (some ⟨gb, go, none⟩) ln lc) tries (n + 1) dn) 142) := by rw [← hW1]; exact setc hT 13 _
  have hgl : gb < W.heap.size := World.block_lt_of_cell? W _ g0
  have gk : W1.heap[gb]? = W.heap[gb]? := o1.block gb hgl hg.2.1
  obtain ⟨X, hX⟩ : ∃ X, W1.heap.size = X := ⟨_, rfl⟩
  obtain ⟨kd, hkd⟩ : ∃ kd, o.kind = kd := ⟨_, rfl⟩
  rw [hkd] at h0 h1' h2' g0
  obtain ⟨W2, hW2⟩ : ∃ W2, W1.alloc (.cells #[.int .i64 kd, .slice ba o.data.length bc] 53) = W2 := ⟨_, rfl⟩
  have b2 : Below X W1 W2 := by rw [← hW2, ← hX]; exact (Below.refl _ _).alloc (Nat.le_refl _) _
  have s2 : W2.heap.size = X + 1 := by rw [← hW2, ← hX]; simp
  have r2 : W2.heap[X]? = some (.cells #[.int .i64 kd, .slice ba o.data.length bc] 53) := by rw [← hW2, ← hX]; exact heap_new _ _
  obtain ⟨W3, hW3⟩ : ∃ W3, W2.alloc (.cells #[.int .i64 0, .int .i64 0, .int .i64 0, .int .u64 0, .int .u64 0, .slice none 0 0, .nilFunc] 189) = W3 := ⟨_, rfl⟩
  have b3 : Below X W2 W3 := by rw [← hW3]; exact (Below.refl _ _).alloc (by omega) _
  have s3 : W3.heap.size = X + 2 := by rw [← hW3]; simp; omega
  have r3 : W3.heap[X + 1]? = some (.cells #[.int .i64 0, .int .i64 0, .int .i64 0, .int .u64 0, .int .u64 0, .slice none 0 0, .nilFunc] 189) := by rw [← hW3, ← s2]; exact heap_new _ _
  have s0 := o1.size
  obtain ⟨e1, e2⟩ := wi_set lt kb hT1 hr o1 (hX.symm ▸ b2.trans b3)
  have HT := Lib.hid (And.intro e1 (And.intro e2 r3))
  unfold wrC at hT hT1
  obtain ⟨c0, c1, c2, c3, c4, c5, c6, c7, c8, c9, c10, c11, c12, c13, c14, -, -, -, -, z13, -⟩ := blk15 hT
  obtain ⟨d0, d1, d2, d3, d4, d5, d6, d7, d8, d9, d10, d11, d12, d13, d14, -⟩ := blk15 hT1
  have g0' : W.cell? ⟨gb, go, none⟩ = some (.int .i64 kd) := g0
  have g1' : W.cell? ⟨gb, go + 1, none⟩ = some (.slice ba o.data.length bc) := g1
  have g2 : W1.cell? ⟨gb, go, none⟩ = some (.int .i64 kd) := (cell_same gk).trans g0'
  have g3 : W1.cell? ⟨gb, go + 1, none⟩ = some (.slice ba o.data.length bc) := (cell_same gk).trans g1'
  have k0 : W2.cell? ⟨X, 0, none⟩ = some (.int .i64 kd) := by simp [World.cell?, r2]
  have k1 : W2.cell? ⟨X, 1, none⟩ = some (.slice ba o.data.length bc) := by simp [World.cell?, r2]
  have hl0 : ((ln : Nat) : Int) ≠ 0 := by rw [h1, List.length_cons]; omega
  have hl1 : (0 : Int) < ((ln : Nat) : Int) := by rw [h1, List.length_cons]; omega
  have w1 : wrap64 (n + 1) = n + 1 := IntWalk.wrap64_in _ (by omega)
  clear hr h3 hT hT1 o1 b2 r2 gk g0 g1 hrow hg lt kb e1 e2 b3 r3
  go_enter Tryz.func63, Tryz.ntmps63
  go_wp2
  go_ret2
  obtain ⟨e1, e2, r3⟩ := HT.out
  refine ⟨_, fun k => k = X + 1, rfl, e1, e2, fun q => ?_, fun k hk => by omega⟩
  have hp : onceT (lgN l) o = .done ⟨noSlt, false, 0, 1⟩ := by
    unfold onceT
    rw [hkd, if_neg h0, if_neg (by omega)]
  exact ⟨fun k hk => by omega, fun u hu => (by rw [hp] at hu; injection hu with hu; subst hu; exact .inl rfl), (X + 1, 0), .wrong rfl rfl r3 hp⟩
/-- the next act is made -/
theorem more_any (hw : l.ok) {o : OpN} (hd : (∀ x ∈ o.data, x < 256) ∧ o.data.length ≤ 1000) (hn : 0 ≤ n ∧ n ≤ 3000) (hln : ops.length ≤ 1000) (h : WI l W b K g now (o :: ops) tries n out) :
    Calls Tryz.prog 63 #[.pointer (some ⟨b, 0, none⟩)] W fun e w' => ∃ act OA, e = .returned (.tuple #[act, .bool true]) ∧ WI l w' b K g now (o :: ops) tries (n + 1) out ∧ Frm K W w' ∧ (∀ q, AX l q (onceT (lgN l) o) act w' OA) ∧ ∀ k, OA k → W.heap.size ≤ k := by
  by_cases h0 : o.kind = 0
  · exact more_offer hw h0 hd hn hln h
  · by_cases h1 : o.kind = 1
    · exact more_claim1 hw h1 hd hn hln h
    · by_cases h2 : o.kind = 2
      · exact more_claim2 hw h2 hd hn hln h
      · exact more_wrong h0 h1 h2 hn hln h
end
end Go.Proofs.YtpbhfckefmboaaaGreatDoor.Sy
