/- ScH, ScI: in one text. -/
import Derived.Test.YtpbhfckefmboaaaGreatDoorGp08
import Derived.Maps.AppendAt
import Derived.Deep.RegionLaw
import Derived.OwnWalk
set_option linter.unusedVariables false
set_option linter.unusedSimpArgs false
set_option linter.unusedSectionVars false
namespace Go.Proofs.YtpbhfckefmboaaaGreatDoor.Ba
open Go Go.RowKit Go.Lib Go.Base
theorem step_append_own {P : Program} {ops : Array Oper} {o : Oper} {a : Act} {w : World} {K : Act → World → Prop} {Q : Exit → Act → World → Prop} {E : Prop} (hg : o.guard = none) (s x : Operand) (t : TypeId)
    (hop : o.op = .call { callee := .builtin .append, args := #[s, x], argTypes := #[t, t] })
    (base : Nat) (e : TypeId) (i : TypeInfo) (z : Value) (size bytes : Nat) (ht : P.underlying t = some (.slice e)) (hi : P.info? e = some i) (hz : i.zero = some z)
    (hsize : i.size = size) (hby : i.bytes = bytes) (hzs : z.cells.size = size) (hsz : 0 < size)
    (v : Value) (n : Nat) (xs : List Value) (hs : a.eval s = v) (hown : w.ownsRow base e size v n xs)
    (ad : Addr) (m c : Nat) (news : List Value) (hx : a.eval x = .slice (some ad) m c) (hl : news.length = m * size) (hnews : ∀ j u, news[j]? = some u → w.cell? (ad.add j) = some u) (h1 : ∀ u ∈ news, u.oneCell' = true)
    (h63 : n + m ≤ maxLen) (hbytes : (n + m) * bytes ≤ 140737488355328) (hbase : base ≤ w.heap.size)
    (h : ∀ v' w', w'.ownsRow base e size v' (n + m) (xs ++ news) → w.grownBy w' v.ownBlock → (v'.ownBlock = v.ownBlock ∨ v'.ownBlock = some w.heap.size) → K (a.put o.dst v') w') :
    if Region.wanted o (yielded ops a.tmps) = true then Oper.wp P o a w K Q else E := by
  have hw : Region.wanted o (yielded ops a.tmps) = true := by simp [Region.wanted, hg]
  rw [if_pos hw]
  obtain ⟨v', w', hrun, r1, r2, _, r3⟩ := run_append_own_at (P := P) (w := w) base t o.type e i z size bytes ht hi hz hsize hby hzs hsz v n xs hown ad m c news hl hnews h1 h63 hbytes hbase
  unfold Oper.wp
  simp [execOp, hop, resolve, invoke, builtin, hs, hx, hrun, Result.andThen]
  exact h v' w' r1 r2 r3
theorem info_ev : (Tryz.prog.info? 44).map (fun i => (i.zero, i.size, i.bytes)) = some (some (.agg (evC (.int .i64 0) (.int .i64 0) (.int .i64 0) 0 0 0 0 0 (.slice none 0 0) 0 false (.slice none 0 0))), 12, 128) := by kernel_rfl
theorem own_neT {w : World} {X n0 n sz : Nat} {t t' : TypeId} {v : Value} {xs : List Value} {A : Array Value} (h : w.ownsRow n0 t sz v n xs) (hX : w.heap[X]? = some (.cells A t')) (ht : t' ≠ t) : v.ownBlock ≠ some X := by
  rcases h.2 with ⟨rfl, -⟩ | ⟨g, cap, cur, rfl, hg, ho, -⟩
  · intro e; cases e
  · intro e
    have : g = X := by simpa [Value.ownBlock] using e
    subst this
    rw [hX] at ho
    injection ho with ho
    injection ho with _ h2 _
    exact ht h2
theorem putC_trK {K : Nat → Prop} {w V : World} {R : Nat} {q0 q1 q2 k p n v u av : Int} {ad : Bool} {r b : Value} (h : TrK K w V) (hR : K R ∨ w.heap.size ≤ R) : TrK K w (putC V R q0 q1 q2 k p n v u b av ad r) := by
  unfold putC
  iterate 12 (refine TrK.set ?_ hR)
  exact h
set_option maxRecDepth 100000 in
set_option maxHeartbeats 3200000 in
theorem pick_step {w : World} {S P T0 m : Nat} {i q clock : Int} {va tr : Value} {trs : List Value} {K : Nat → Prop} {Post : World → World → Prop}
    (hS : w.heap[S]? = some (.cells #[.pointer (some ⟨P, 0, none⟩), va, .int .i64 clock, tr] 116)) (ho : w.ownsRow T0 44 12 tr m trs) (hm : m ≤ 100000) (hT0 : T0 ≤ w.heap.size)
    (hK : ∀ k, K k → k < w.heap.size ∧ k ≠ S ∧ tr.ownBlock ≠ some k)
    (hA : ∀ V E, Below w.heap.size w V → w.heap.size ≤ E → V.heap[E]? = some (.cells (evC (.int .i64 0) (.int .i64 i) (.int .i64 q) 0 0 0 0 0 (.slice none 0 0) 0 false (.slice none 0 0)) 44) →
      Calls Tryz.prog 76 #[.pointer (some ⟨S, 0, none⟩), .agg #[.int .i64 0, .int .i64 i, .int .i64 q], .pointer (some ⟨E, 0, none⟩)] V fun e w' => ∃ k p n v u xa xn xc av ad ra rn rc, e = .returned (.int .i64 0) ∧ TrK (fun k => K k ∨ k = E) V w' ∧ w'.heap[E]? = some (.cells (evC (.int .i64 0) (.int .i64 i) (.int .i64 q) k p n v u (.slice xa xn xc) av ad (.slice ra rn rc)) 44) ∧ Post V w' ∧
        (∀ V', TrK (fun k => k = S ∨ tr.ownBlock = some k) w' V' → Calls Tryz.prog 62 #[.slice xa xn xc] V' fun e V'' => ∃ ya yn yc, e = .returned (.slice ya yn yc) ∧ Below V'.heap.size V' V'') ∧
        (∀ V', TrK (fun k => k = S ∨ tr.ownBlock = some k) w' V' → Calls Tryz.prog 62 #[.slice ra rn rc] V' fun e V'' => ∃ ya yn yc, e = .returned (.slice ya yn yc) ∧ Below V'.heap.size V' V'')) :
    Calls Tryz.prog 36 #[.pointer (some ⟨S, 0, none⟩), .agg #[.int .i64 0, .int .i64 i, .int .i64 q]] w fun e w' => ∃ k p n v u ya yn yc av ad za zn zc, e = .returned (.tuple #[evV (.int .i64 0) (.int .i64 i) (.int .i64 q) k p n v u (.slice ya yn yc) av ad (.slice za zn zc), .int .i64 0]) ∧ ∃ V w5 tr' ev, Below w.heap.size w V ∧ TrK (fun k => K k ∨ w.heap.size ≤ k) V w5 ∧ Post V w5 ∧ TrK (fun k => k = S ∨ tr.ownBlock = some k ∨ k = w.heap.size + 1) w5 w' ∧ Ev w5 (w.heap.size + 1) ∧ w'.heap[S]? = some (.cells #[.pointer (some ⟨P, 0, none⟩), va, .int .i64 clock, tr'] 116) ∧ w'.ownsRow T0 44 12 tr' (m + 1) (trs ++ ev) ∧ ev.length = 12 ∧ ev.head? = some (.int .i64 0) := by
  obtain ⟨i0, hi, hz0, hz1, hz2⟩ := info_parts info_ev
  obtain ⟨A, hA0⟩ : ∃ X, w.heap.size = X := ⟨_, rfl⟩
  obtain ⟨V1, hV1⟩ : ∃ V, w.alloc (.cells #[.int .i64 0, .int .i64 i, .int .i64 q] 36) = V := ⟨_, rfl⟩
  obtain ⟨V2, hV2⟩ : ∃ V, V1.alloc (.cells (evC (.int .i64 0) (.int .i64 0) (.int .i64 0) 0 0 0 0 0 (.slice none 0 0) 0 false (.slice none 0 0)) 44) = V := ⟨_, rfl⟩
  obtain ⟨V3, hV3⟩ : ∃ V, V2.alloc (.cells (evC (.int .i64 0) (.int .i64 0) (.int .i64 0) 0 0 0 0 0 (.slice none 0 0) 0 false (.slice none 0 0)) 44) = V := ⟨_, rfl⟩
  obtain ⟨b1, r1, s1⟩ := at_new hV1
  obtain ⟨b2, r2, s2⟩ := at_new hV2
  obtain ⟨b3, r3, s3⟩ := at_new hV3
  rw [hA0] at r1 s1 b1
  rw [s1] at r2 s2 b2
  rw [s2] at r3 s3 b3
  have r12 := (b2.block A (by omega)).trans r1
  have r13 := (b3.block A (by omega)).trans r12
  have r23 := (b3.block (A + 1) (by omega)).trans r2
  obtain ⟨p0, p1, p2, -, -, -⟩ := blk3 r12
  obtain ⟨p30, p31, p32, -, -, -⟩ := blk3 r13
  have B3 : Below A w V3 := b1.trans ((b2.mono (by omega)).trans (b3.mono (by omega)))
  obtain ⟨V4, hV4⟩ : ∃ V, putC V3 (A + 1 + 1) 0 i q 0 0 0 0 0 (.slice none 0 0) 0 false (.slice none 0 0) = V := ⟨_, rfl⟩
  have B4 : Below A w V4 := hV4 ▸ putC_below B3 (by omega)
  have r4 : V4.heap[A + 1 + 1]? = _ := hV4 ▸ putC_at rfl r3
  have r14 : V4.heap[A]? = _ := hV4 ▸ (putC_other (by omega)).trans r13
  have r24 : V4.heap[A + 1]? = _ := hV4 ▸ (putC_other (by omega)).trans r23
  obtain ⟨i0', i1', i2', i3', i4', i5', i6', i7', i8', i9', i10', i11', iz⟩ := blk12 r3
  have iz0 := iz 0 (by decide)
  have iz1 := iz 1 (by decide)
  have iz2 := iz 2 (by decide)
  have iz3 := iz 3 (by decide)
  have iz4 := iz 4 (by decide)
  have iz5 := iz 5 (by decide)
  have iz6 := iz 6 (by decide)
  have iz7 := iz 7 (by decide)
  have iz8 := iz 8 (by decide)
  have iz9 := iz 9 (by decide)
  have iz10 := iz 10 (by decide)
  have iz11 := iz 11 (by decide)
  obtain ⟨p40, p41, p42, -, -, -⟩ := blk3 r14
  have H4 := Lib.hid (And.intro B4 (And.intro r4 r24))
  have HW := Lib.hid (And.intro hS (And.intro ho (And.intro hK hA)))
  unfold putC at hV4
  dsimp only [evC] at hV2 hV3
  clear b1 b2 b3 r1 r2 r3 r12 r13 r23 B3 B4 r4 r14 r24 iz hS ho hK hA
  go_enter Tryz.func36, Tryz.ntmps36
  go_wp2_with (go_at_call 76; refine (HW.out.2.2.2 _ (A + 1 + 1) (hA0.symm ▸ H4.out.1) (by omega) H4.out.2.1).mono ?_; rintro e w5 ⟨k, p, n, v, u, xa, xn, xc, av, ad, ra, rn, rc, rfl, hT, hE, hP, hc1, hc2⟩; have H5 := Lib.hid (And.intro hT (And.intro hE (And.intro hP (And.intro hc1 hc2)))); clear hT hE hP hc1 hc2)
  clear i0' i1' i2' i3' i4' i5' i6' i7' i8' i9' i10' i11' iz0 iz1 iz2 iz3 iz4 iz5 iz6 iz7 iz8 iz9 iz10 iz11 p0 p1 p2 p30 p31 p32 p40 p41 p42 hV1 hV2 hV3 hV4
  have hSl : S < A := hA0 ▸ (Array.getElem?_eq_some_iff.1 HW.out.1).1
  have nK : ∀ k, K k → k < A ∧ k ≠ S ∧ tr.ownBlock ≠ some k := fun k hk => hA0 ▸ HW.out.2.2.1 k hk
  have z4 : A + 1 + 1 < V4.heap.size := (Array.getElem?_eq_some_iff.1 H4.out.2.1).1
  have z5 := H5.out.1.size
  have rS : w5.heap[S]? = some (.cells #[.pointer (some ⟨P, 0, none⟩), va, .int .i64 clock, tr] 116) := (H5.out.1.block S (by omega) (by rintro (h | h); exact (nK S h).2.1 rfl; omega)).trans ((H4.out.1.block S hSl).trans HW.out.1)
  have rR : w5.heap[A + 1]? = some (.cells (evC (.int .i64 0) (.int .i64 0) (.int .i64 0) 0 0 0 0 0 (.slice none 0 0) 0 false (.slice none 0 0)) 44) := (H5.out.1.block (A + 1) (by omega) (by rintro (h | h); have := (nK _ h).1; omega; omega)).trans H4.out.2.2
  have oT : ∀ g, tr.ownBlock = some g → g < A := fun g hg => by have := (HW.out.2.1.lt g hg).2; omega
  have o5 : w5.ownsRow T0 44 12 tr m trs := own_at HW.out.2.1 fun g hg => (H5.out.1.block g (by have := oT g hg; omega) (by rintro (h | h); exact (nK g h).2.2 hg; have := oT g hg; omega)).trans (H4.out.1.block g (oT g hg))
  have nS : tr.ownBlock ≠ some S := own_neT o5 rS (by decide)
  obtain ⟨Y, hY⟩ : ∃ Y, w5.heap.size = Y := ⟨_, rfl⟩
  have hDk : ∀ j, j < Y → (w5.alloc (.cells #[.int .i64 0, .int .i64 i, .int .i64 q, .int .i64 k, .int .i64 p, .int .i64 n, .int .u64 v, .int .u64 u, .slice xa xn xc, .int .u64 av, .bool ad, .slice ra rn rc] 44)).drew.heap[j]? = w5.heap[j]? := fun j hj => ((Below.refl w5.heap.size w5).alloc (Nat.le_refl _) _).drew.block j (by omega)
  have hDk2 : ∀ j, j < Y → (w5.alloc (.cells #[.int .i64 0, .int .i64 i, .int .i64 q, .int .i64 k, .int .i64 p, .int .i64 n, .int .u64 v, .int .u64 u, .slice xa xn xc, .int .u64 av, .bool ad, .slice ra rn rc] 44)).heap[j]? = w5.heap[j]? := fun j hj => ((Below.refl w5.heap.size w5).alloc (Nat.le_refl _) _).block j (by omega)
  have hDr : (w5.alloc (.cells #[.int .i64 0, .int .i64 i, .int .i64 q, .int .i64 k, .int .i64 p, .int .i64 n, .int .u64 v, .int .u64 u, .slice xa xn xc, .int .u64 av, .bool ad, .slice ra rn rc] 44)).drew.heap[Y]? = some (.cells #[.int .i64 0, .int .i64 i, .int .i64 q, .int .i64 k, .int .i64 p, .int .i64 n, .int .u64 v, .int .u64 u, .slice xa xn xc, .int .u64 av, .bool ad, .slice ra rn rc] 44) := by rw [← hY]; exact heap_new w5 _
  have hDs : (w5.alloc (.cells #[.int .i64 0, .int .i64 i, .int .i64 q, .int .i64 k, .int .i64 p, .int .i64 n, .int .u64 v, .int .u64 u, .slice xa xn xc, .int .u64 av, .bool ad, .slice ra rn rc] 44)).drew.heap.size = Y + 1 := by rw [← hY]; show (w5.alloc _).heap.size = _; simp
  obtain ⟨ta, tn, tc, rfl⟩ := own_slc o5
  have hDo : (w5.alloc (.cells #[.int .i64 0, .int .i64 i, .int .i64 q, .int .i64 k, .int .i64 p, .int .i64 n, .int .u64 v, .int .u64 u, .slice xa xn xc, .int .u64 av, .bool ad, .slice ra rn rc] 44)).drew.ownsRow T0 44 12 (.slice ta tn tc) m trs := own_at o5 fun g hg => hDk g (by have := oT g hg; omega)
  have hDn : ∀ (j : Nat) z, ([.int .i64 0, .int .i64 i, .int .i64 q, .int .i64 k, .int .i64 p, .int .i64 n, .int .u64 v, .int .u64 u, .slice xa xn xc, .int .u64 av, .bool ad, .slice ra rn rc] : List Value)[j]? = some z → (w5.alloc (.cells #[.int .i64 0, .int .i64 i, .int .i64 q, .int .i64 k, .int .i64 p, .int .i64 n, .int .u64 v, .int .u64 u, .slice xa xn xc, .int .u64 av, .bool ad, .slice ra rn rc] 44)).drew.cell? ((⟨Y, 0, none⟩ : Addr).add j) = some z := fun j z hj => by
    rw [Addr.add_lit, Nat.zero_add]
    simpa [World.cell?, hDr] using hj
  have k3 : w5.cell? ⟨S, 3, none⟩ = some (.slice ta tn tc) := by simp [World.cell?, rS]
  have k3D : (w5.alloc (.cells #[.int .i64 0, .int .i64 i, .int .i64 q, .int .i64 k, .int .i64 p, .int .i64 n, .int .u64 v, .int .u64 u, .slice xa xn xc, .int .u64 av, .bool ad, .slice ra rn rc] 44)).cell? ⟨S, 3, none⟩ = some (.slice ta tn tc) := by simp only [World.cell?, hDk2 S (by omega)]; simp [rS]
  obtain ⟨f0, f1, f2, f3, f4, f5, f6, f7, f8, f9, f10, f11, -⟩ := blk12 H5.out.2.1
  have hEY : A + 1 + 1 < Y := by omega
  have HD := Lib.hid (And.intro hDk (And.intro hDs (And.intro hDo (And.intro hDn (And.intro rS (And.intro rR (And.intro oT nS)))))))
  have hTY : T0 ≤ Y + 1 := by omega
  clear hDk hDk2 hDr hDs hDo hDn rS rR o5 nS nK oT
  go_region_law (refine step_append_own rfl (.tmp 32) (.tmp 34) 56 rfl T0 44 i0 _ 12 128 Tryz.underlying56 hi hz0 hz1 hz2 rfl (by decide) (.slice ta tn tc) m trs (by simp [Act.eval, Act.put]) HD.out.2.2.1 ⟨Y, 0, none⟩ 1 1 [.int .i64 0, .int .i64 i, .int .i64 q, .int .i64 k, .int .i64 p, .int .i64 n, .int .u64 v, .int .u64 u, .slice xa xn xc, .int .u64 av, .bool ad, .slice ra rn rc] (by simp [Act.eval, Act.put]) rfl HD.out.2.2.2.1 (by intro z hz; simp at hz; rcases hz with rfl | rfl | rfl | rfl | rfl | rfl | rfl | rfl | rfl | rfl | rfl | rfl <;> rfl) (by unfold maxLen; omega) (by omega) (by rw [HD.out.2.1]; exact hTY) ?_; intro v5 w6 q1 q2 q3; obtain ⟨tb, tm, td, rfl⟩ := own_slc q1; have hb := fun j (hj : j < Y) (hn : ¬ (Value.slice ta tn tc).ownBlock = some j) => (q2.block j (by rw [HD.out.2.1]; omega) (fun e => hn e.symm)).trans (HD.out.1 j hj); have HB := Lib.hid (And.intro q1 (And.intro q2 (And.intro hb (show ∀ g, (Value.slice tb tm td).ownBlock = some g → g ≠ A + 1 from fun g hg => by rcases q3 with h | h; (have := HD.out.2.2.2.2.2.2.1 g (h.symm.trans hg); omega); (rw [HD.out.2.1, hg] at h; injection h with h; omega))))); have rS6 := (hb S (by omega) HD.out.2.2.2.2.2.2.2).trans HD.out.2.2.2.2.1; have s3 : w6.cell? ⟨S, 3, none⟩ = some (.slice ta tn tc) := (by simp [World.cell?, rS6]); have fs3 : w6.frozen? ⟨S, 3, none⟩ = false := (by simp [World.frozen?, rS6]); have HS6 := Lib.hid rS6; clear q1 q2 q3 hb rS6)
  all_goals (
    clear f0 f1 f2 f3 f4 f5 f6 f7 f8 f9 f10 f11 k3 k3D s3 fs3
    obtain ⟨W7, hW7⟩ : ∃ V, w6.setCell ⟨S, 3, none⟩ (.slice tb tm td) = V := ⟨_, rfl⟩
    rw [hW7]
    have h7T : TrK (fun j => j = S ∨ (Value.slice ta tn tc).ownBlock = some j) w5 W7 := hW7 ▸ ((TrK.of ((Below.refl w5.heap.size w5).alloc (Nat.le_refl _) _).drew).grown HB.out.2.1 fun j hj => .inl (.inr hj)).set (.inl (.inl rfl))
    have h7S : W7.heap[S]? = some (.cells #[.pointer (some ⟨P, 0, none⟩), va, .int .i64 clock, .slice tb tm td] 116) := by rw [← hW7]; simpa using set7 HS6.out 3 (.slice tb tm td)
    have h7o : W7.ownsRow T0 44 12 (.slice tb tm td) (m + 1) (trs ++ [.int .i64 0, .int .i64 i, .int .i64 q, .int .i64 k, .int .i64 p, .int .i64 n, .int .u64 v, .int .u64 u, .slice xa xn xc, .int .u64 av, .bool ad, .slice ra rn rc]) := by
      rw [← hW7]
      exact own_at HB.out.1 fun g hg => set_other fun e => own_neT HB.out.1 HS6.out (by decide) (e ▸ hg)
    have nE : ∀ j, A ≤ j → ¬ (Value.slice ta tn tc).ownBlock = some j := fun j hj e => by have := HD.out.2.2.2.2.2.2.1 j e; omega
    have h7E : W7.heap[A + 1 + 1]? = some (.cells (evC (.int .i64 0) (.int .i64 i) (.int .i64 q) k p n v u (.slice xa xn xc) av ad (.slice ra rn rc)) 44) := by rw [← hW7]; exact (set_other (by omega)).trans ((HB.out.2.2.1 _ (by omega) (nE _ (by omega))).trans H5.out.2.1)
    have h7R : W7.heap[A + 1]? = some (.cells (evC (.int .i64 0) (.int .i64 0) (.int .i64 0) 0 0 0 0 0 (.slice none 0 0) 0 false (.slice none 0 0)) 44) := by rw [← hW7]; exact (set_other (by omega)).trans ((HB.out.2.2.1 _ (by omega) (nE _ (by omega))).trans HD.out.2.2.2.2.2.1)
    have cp := copied_any (w := W7) (q0 := 0) (q1 := i) (q2 := q) (k := k) (p := p) (n := n) (v := v) (u := u) (av := av) (ad := ad) (xa := xa) (xn := xn) (xc := xc) (ra := ra) (rn := rn) (rc := rc) (fun V hV => H5.out.2.2.2.1 V (h7T.below hV)) (fun V hV => H5.out.2.2.2.2 V (h7T.below hV))
    dsimp only [evV, evC] at cp
    obtain ⟨f0, f1, f2, f3, f4, f5, f6, f7, f8, f9, f10, f11, -⟩ := blk12 h7E
    have H7 := Lib.hid (And.intro h7T (And.intro h7S (And.intro h7o (And.intro h7R cp))))
    clear h7T h7S h7o h7E h7R cp nE hW7
    go_wp2_with (go_at_call 77
                 refine H7.out.2.2.2.2.mono ?_
                 rintro e w8 ⟨ya, yn, yc, za, zn, zc, rfl, hB8⟩
                 have hRl := (Array.getElem?_eq_some_iff.1 H7.out.2.2.2.1).1
                 have r8 := (hB8.block (A + 1) hRl).trans H7.out.2.2.2.1
                 obtain ⟨i0', i1', i2', i3', i4', i5', i6', i7', i8', i9', i10', i11', iz⟩ := blk12 r8
                 have iz0 := iz 0 (by decide)
                 have iz1 := iz 1 (by decide)
                 have iz2 := iz 2 (by decide)
                 have iz3 := iz 3 (by decide)
                 have iz4 := iz 4 (by decide)
                 have iz5 := iz 5 (by decide)
                 have iz6 := iz 6 (by decide)
                 have iz7 := iz 7 (by decide)
                 have iz8 := iz 8 (by decide)
                 have iz9 := iz 9 (by decide)
                 have iz10 := iz 10 (by decide)
                 have iz11 := iz 11 (by decide)
                 obtain ⟨W9, hW9⟩ : ∃ V, putC w8 (A + 1) 0 i q k p n v u (.slice ya yn yc) av ad (.slice za zn zc) = V := ⟨_, rfl⟩
                 have h9 : W9.heap[A + 1]? = _ := hW9 ▸ putC_at rfl r8
                 obtain ⟨k0, k1, k2, k3, k4, k5, k6, k7, k8, k9, k10, k11, -⟩ := blk12 h9
                 have hz1 : TrK (fun j => j = A + 1) w8 W9 := hW9 ▸ putC_trK (TrK.refl _ _) (.inl rfl)
                 have H9 := Lib.hid (And.intro hB8 hz1)
                 unfold putC at hW9
                 clear hB8 hz1 h9 r8 iz hRl f0 f1 f2 f3 f4 f5 f6 f7 f8 f9 f10 f11)
    have hS8 : W9.heap[S]? = some (.cells #[.pointer (some ⟨P, 0, none⟩), va, .int .i64 clock, .slice tb tm td] 116) := (H9.out.2.block S (by have := H9.out.1.size; have := (Array.getElem?_eq_some_iff.1 H7.out.2.1).1; omega) (by omega)).trans ((H9.out.1.block S (Array.getElem?_eq_some_iff.1 H7.out.2.1).1).trans H7.out.2.1)
    have ho8 : W9.ownsRow T0 44 12 (.slice tb tm td) (m + 1) (trs ++ [.int .i64 0, .int .i64 i, .int .i64 q, .int .i64 k, .int .i64 p, .int .i64 n, .int .u64 v, .int .u64 u, .slice xa xn xc, .int .u64 av, .bool ad, .slice ra rn rc]) := own_at H7.out.2.2.1 fun g hg => (H9.out.2.block g (by have := H9.out.1.size; have := (H7.out.2.2.1.lt g hg).2; omega) (HB.out.2.2.2 g hg)).trans (H9.out.1.block g (H7.out.2.2.1.lt g hg).2)
    have ht8 : TrK (fun j => j = S ∨ (Value.slice ta tn tc).ownBlock = some j ∨ j = w.heap.size + 1) w5 W9 := ((H7.out.1.mono fun j _ hj => by rcases hj with h | h <;> simp [h]).trans (.of H9.out.1)).trans (H9.out.2.mono fun j _ hj => .inr (.inr (by omega)))
    have hR5 : w5.heap[w.heap.size + 1]? = some (.cells (evC (.int .i64 0) (.int .i64 0) (.int .i64 0) 0 0 0 0 0 (.slice none 0 0) 0 false (.slice none 0 0)) 44) := hA0.symm ▸ HD.out.2.2.2.2.2.1
    have hEv : Ev w5 (w.heap.size + 1) := ⟨⟨_, hR5⟩, 0, by simp [World.cell?, hR5]⟩
    refine bodyPost_ret (by simp [results, Tryz.results36, go_sem, k0, k1, k2, k3, k4, k5, k6, k7, k8, k9, k10, k11, evV, evC]) rfl ⟨k, p, n, v, u, ya, yn, yc, av, ad, za, zn, zc, rfl, V4, w5, _, _, hA0 ▸ H4.out.1, H5.out.1.mono (fun j _ hj => by rcases hj with h | h; exact .inl h; exact .inr (by omega)), H5.out.2.2.1, ht8, hEv, hS8, ho8, rfl, rfl⟩)
end Go.Proofs.YtpbhfckefmboaaaGreatDoor.Ba
namespace Go.Proofs.YtpbhfckefmboaaaGreatDoor.Ba
open Go Go.RowKit Go.Lib Go.Base
/-- the same, and another block may change that is a scheduler's world -/
theorem InitS.keptS {w w' : World} {I S P : Nat} {L : List Sto} (h : InitS w I L) (hS : HasTy w S 116) (hS0 : w.cell? ⟨S, 0, none⟩ = some (.pointer (some ⟨P, 0, none⟩))) (hP : P ≠ I) (hb : ∀ k, I ≤ k → k < w.heap.size → ¬ Ev w k → k ≠ S → w'.heap[k]? = w.heap[k]?) : InitS w' I L := by
  have nI : ¬ Ev w I ∧ I ≠ S := by
    obtain ⟨C', e'⟩ := hS
    cases L with
    | nil =>
      have h0 : w.heap[I]? = _ := h
      exact ⟨by rintro ⟨⟨C, e⟩, -⟩; rw [h0] at e; injection e with e; injection e with _ e _; revert e; decide, fun e => by subst e; rw [h0] at e'; injection e' with e'; injection e' with _ e' _; revert e'; decide⟩
    | cons x L =>
      obtain ⟨_, _, _, _, h0, -⟩ := h
      exact ⟨by rintro ⟨⟨C, e⟩, -⟩; rw [h0] at e; injection e with e; injection e with _ e _; revert e; decide, fun e => by subst e; rw [h0] at e'; injection e' with e'; injection e' with _ e' _; revert e'; decide⟩
  have hI : w'.heap[I]? = w.heap[I]? := hb I (Nat.le_refl _) h.lt nI.1 nI.2
  cases L with
  | nil => exact hI.trans h
  | cons x L =>
    obtain ⟨c2, c3, ga, cap, h0, k2, k3, n2, n3, h4, h5, hr⟩ := h
    have hc : ∀ {b o : Nat} {u : Value}, I < b → ¬ Ev w b → b ≠ S → w.cell? ⟨b, o, none⟩ = some u → w'.cell? ⟨b, o, none⟩ = some u := fun {b o u} hlt hn hn2 hc => by
      have := hb b (Nat.le_of_lt hlt) (World.block_lt_of_cell? w _ hc) hn hn2
      simp only [World.cell?, this] at hc ⊢
      exact hc
    have m2 : ¬ Ev w c2 := by rintro ⟨_, z, e⟩; rw [k2] at e; cases e
    have m3 : ¬ Ev w c3 := by rintro ⟨_, z, e⟩; rw [k3] at e; cases e
    have m2' : c2 ≠ S := by intro e; subst e; rw [k2] at hS0; injection hS0 with e; injection e with e; injection e with e; injection e with e; exact hP e.symm
    have m3' : c3 ≠ S := by intro e; subst e; rw [k3] at hS0; cases hS0
    refine ⟨c2, c3, ga, cap, hI.trans h0, hc n2 m2 m2' k2, hc n3 m3 m3' k3, n2, n3, h4, h5, fun j y hj => ?_⟩
    obtain ⟨g, o, e, g1, g2, q0, q1, q2, q3, q4, q5⟩ := hr j y hj
    have ng : ¬ Ev w g := by
      rintro ⟨⟨C, e⟩, -⟩
      obtain ⟨C', e'⟩ := g2
      rw [e'] at e; injection e with e; injection e with _ e _; revert e; decide
    have ng' : g ≠ S := by
      intro e
      subst e
      obtain ⟨C, e⟩ := hS
      obtain ⟨C', e'⟩ := g2
      rw [e'] at e; injection e with e; injection e with _ e _; revert e; decide
    exact ⟨g, o, e, g1, g2.imp fun C h => (hb g (Nat.le_of_lt g1) g2.lt ng ng').trans h, hc g1 ng ng' q0, hc g1 ng ng' q1, hc g1 ng ng' q2, hc g1 ng ng' q3, hc g1 ng ng' q4, hc g1 ng ng' q5⟩
theorem ev_own {w : World} {n0 n g : Nat} {z : Int} {v : Value} {xs : List Value} (h : w.ownsRow n0 44 12 v n xs) (hx : xs.head? = some (.int .i64 z)) (hg : v.ownBlock = some g) : Ev w g := by
  obtain ⟨hl, h2⟩ := h
  rcases h2 with ⟨rfl, hn⟩ | ⟨g', cap, cur, rfl, hb, ho, hn, hm, hs, ht⟩
  · cases hg
  · have e : g' = g := by simpa [Value.ownBlock] using hg
    subst e
    refine ⟨⟨_, ho⟩, z, ?_⟩
    have h5 : (cur.toList.take (n * 12)).head? = some (.int .i64 z) := by rw [ht]; exact hx
    rw [List.head?_eq_getElem?, List.getElem?_take] at h5
    split at h5
    · rw [Array.getElem?_toList] at h5
      simpa [World.cell?, ho] using h5
    · cases h5
/-- what Robin goes through -/
structure RobS (n0 S a I P Wb nw : Nat) (w0 : World) (k : Nat) (L : List Sto) (w : World) : Prop where
  bl : Below n0 w0 w
  n0 : n0 ≤ P ∧ n0 ≤ Wb
  fb : ∃ ws c, Bufw w P Wb nw ws c
  wl : ∃ tr trs, WldR w S P 0 tr [a] ∧ w.ownsRow (S + 1) 44 12 tr k trs ∧ (∀ g, tr.ownBlock = some g → Ev w g) ∧ (∀ x, trs.head? = some x → ∃ z, x = .int .i64 z)
  ac : ActR w a (.iface 82 (.pointer (some ⟨I, 0, none⟩))) false
  mi : InitS w I L
  pI : P < I
  wI : Wb < I
  iS : I < S
  sa : S < a
theorem WldR.below {w w' : World} {S P : Nat} {clock : Int} {tr : Value} {As : List Nat} (h : WldR w S P clock tr As) (hb : Below w.heap.size w w') : WldR w' S P clock tr As := by
  obtain ⟨v, h1, h2⟩ := h
  exact ⟨v, (hb.block S (Array.getElem?_eq_some_iff.1 h1).1).trans h1, own_at h2 fun g hg => hb.block g (h2.lt g hg).2⟩
theorem Ev.kept {w w' : World} {g : Nat} (h : Ev w g) (hb : w'.heap[g]? = w.heap[g]?) : Ev w' g := by
  obtain ⟨⟨C, h1⟩, z, h2⟩ := h
  refine ⟨⟨C, hb.trans h1⟩, z, ?_⟩
  simp only [World.cell?, hb] at h2 ⊢
  exact h2
theorem pick_init {n0 S a I P Wb nw k : Nat} {w0 w : World} {x : Sto} {L : List Sto} (h : RobS n0 S a I P Wb nw w0 k (x :: L) w) (hk : k ≤ 1000) (hck : chkM (8 * nw) 2 x.1 x.2.1 0 = 0) (hn : 0 ≤ x.2.1 ∧ x.2.1 ≤ 8) (hat : 0 ≤ x.1 ∧ x.1 / 8 < (nw : Int)) (hat2 : x.1 ≤ 1000000) :
    Calls Tryz.prog 36 #[.pointer (some ⟨S, 0, none⟩), .agg #[.int .i64 0, .int .i64 0, .int .i64 0]] w fun e w' => (∃ v, e = .returned v) ∧ RobS n0 S a I P Wb nw w0 (k + 1) L w' := by
  obtain ⟨bl, ⟨n1, n2⟩, ⟨ws, c, fb⟩, ⟨tr, trs, hw, ho, hev, hhd⟩, ac, mi, pI, wI, iS, sa⟩ := h
  have hWl := hw
  obtain ⟨va, hS, hva⟩ := hw
  have lS := (Array.getElem?_eq_some_iff.1 hS).1
  have la := (Array.getElem?_eq_some_iff.1 ac).1
  have lI := mi.lt
  have pl := fb.pl
  have wl := fb.wl
  obtain ⟨p, n, v⟩ := x
  dsimp only at *
  refine (pick_step (i := 0) (q := 0) (K := fun k => k = P ∨ k = Wb ∨ k = I) (Post := fun V w' => InitS w' I L ∧ ∃ ws c, Bufw w' P Wb nw ws c) hS ho (by omega) (by omega) ?_ ?_).mono ?_
  · intro k hk
    refine ⟨by omega, by omega, fun e => ?_⟩
    have := (ho.lt k e).1
    omega
  · intro V E hV hE hEv
    have lE := (Array.getElem?_eq_some_iff.1 hEv).1
    have vs := hV.size
    refine (act_step (w := V) (i := 0) (q := 0) (E := E) (Q := fun r w' => r = 0 ∧ TrK (fun k => k = P ∨ k = Wb ∨ k = E ∨ k = I) V w' ∧ (∃ ws c, Bufw w' P Wb nw ws c) ∧ w'.heap[E]? = some (.cells (evC (.int .i64 0) (.int .i64 0) (.int .i64 0) 2 p n v 0 (.slice none 0 0) 0 false (.slice none 0 0)) 44) ∧ InitS w' I L) (hWl.below hV) (by simp) rfl ((hV.block a la).trans ac) ?_).mono ?_
    · intro V2 hV2
      have vs2 := hV2.size
      have hb : Below w.heap.size w V2 := hV.trans (hV2.mono vs)
      have hS2 := (hb.block S lS).trans hS
      refine (step_init (z := 0) (S := S) (P := P) (Wb := Wb) (nw := nw) (ws := ws) (c := c) ⟨fb.below hb, by simp [World.cell?, hS2], (hb.block a la).trans ac, (hV2.block E lE).trans hEv, by omega, by omega, by omega, by omega, by omega, by omega, by omega, by omega⟩ (mi.below hb) pI wI hck hn hat hat2).mono ?_
      rintro e w' ⟨rfl, h1, h2, h3, h4⟩
      exact ⟨0, rfl, rfl, (TrK.of hV2).trans h1, ⟨_, _, h2⟩, h3, h4⟩
    · rintro e w' ⟨r, rfl, rfl, h1, h2, h3, h4⟩
      refine ⟨2, p, n, v, 0, none, 0, 0, 0, false, none, 0, 0, rfl, h1.mono (fun k _ hk => by rcases hk with h | h | h | h <;> simp [h]), h3, ⟨h4, h2⟩, fun V' _ => ?_, fun V' _ => ?_⟩
      · exact (clone_nil 0 0 V').mono fun e V'' h => ⟨none, 0, 0, h.1, h.2⟩
      · exact (clone_nil 0 0 V').mono fun e V'' h => ⟨none, 0, 0, h.1, h.2⟩
  · rintro e w' ⟨_, _, _, _, _, _, _, _, _, _, _, _, _, rfl, V, w5, tr', ev, hV, hT1, ⟨hI5, ws', c', hB5⟩, hT2, hR5, hS', ho', hl, hh⟩
    have vs := hV.size
    have ts1 := hT1.size
    have ts2 := hT2.size
    -- what lay ahead of the pick and is none of four blocks lies so still
    have keep5 : ∀ k, k < w.heap.size → k ≠ P → k ≠ Wb → k ≠ I → w5.heap[k]? = w.heap[k]? := fun k h1 h2 h3 h4 => (hT1.block k (by omega) (by omega)).trans (hV.block k h1)
    have keep : ∀ k, k < w.heap.size → k ≠ P → k ≠ Wb → k ≠ I → k ≠ S → tr.ownBlock ≠ some k → w'.heap[k]? = w.heap[k]? := fun k h1 h2 h3 h4 h5 h6 => (hT2.block k (by omega) (by rintro (h | h | h); exact h5 h; exact h6 h; omega)).trans (keep5 k h1 h2 h3 h4)
    have oS : ∀ g, tr.ownBlock = some g → S < g ∧ g < w.heap.size := fun g hg => by have := ho.lt g hg; omega
    refine ⟨⟨_, rfl⟩, ?_, ⟨n1, n2⟩, ⟨ws', c', hB5.kept ts2 (hT2.block P hB5.pl ?_) (hT2.block Wb hB5.wl ?_)⟩, ⟨tr', trs ++ ev, ⟨va, hS', own_at hva fun g hg => ?_⟩, ho', fun g hg => ?_, ?_⟩, ?_, ?_, pI, wI, iS, sa⟩
    · have b1 : Below n0 w0 V := bl.trans (hV.mono (by omega))
      have hz := bl.size
      have hz0 : n0 ≤ w.heap.size := by omega
      have b2 : Below n0 V w5 := hT1.toBelow (fun k hk => by omega) (by omega)
      have b3 : Below n0 w5 w' := hT2.toBelow (fun k hk => by rcases hk with h | h | h; omega; (have := oS k h; omega); omega) (by omega)
      exact b1.trans ((b2.trans b3))
    · rintro (h | h | h); omega; (have := oS P h; omega); omega
    · rintro (h | h | h); omega; (have := oS Wb h; omega); omega
    · have h1 := hva.lt g hg
      refine keep g h1.2 (by omega) (by omega) (by omega) (by omega) fun e => ?_
      obtain ⟨⟨C, e1⟩, -⟩ := hev g e
      exact own_neT hva e1 (by decide) hg
    · cases trs with
      | nil => exact ev_own (z := 0) ho' (by simpa using hh) hg
      | cons y ys =>
        obtain ⟨z, hz⟩ := hhd y rfl
        exact ev_own (z := z) ho' (by simp [hz]) hg
    · intro y hy
      cases trs with
      | nil => exact ⟨0, by simp [hh] at hy; exact hy.symm⟩
      | cons y' ys => exact hhd y (by simpa using hy)
    · refine (keep a la (by omega) (by omega) (by omega) (by omega) fun e => ?_).trans ac
      obtain ⟨⟨C, e1⟩, -⟩ := hev a e
      have e2 := ac
      unfold ActR at e2
      rw [e1] at e2; injection e2 with e2; injection e2 with _ e2 _; revert e2; decide
    · have hS5 := (keep5 S lS (by omega) (by omega) (by omega)).trans hS
      refine hI5.keptS (S := S) (P := P) ⟨_, hS5⟩ (by simp [World.cell?, hS5]) (by omega) fun k hk hk2 hne hkS => hT2.block k hk2 ?_
      rintro (h | h | h)
      · exact hkS h
      · exact hne ((hev k h).kept (keep5 k (oS k h).2 (by have := oS k h; omega) (by have := oS k h; omega) (by have := oS k h; omega)))
      · subst h; exact hne hR5
end Go.Proofs.YtpbhfckefmboaaaGreatDoor.Ba
