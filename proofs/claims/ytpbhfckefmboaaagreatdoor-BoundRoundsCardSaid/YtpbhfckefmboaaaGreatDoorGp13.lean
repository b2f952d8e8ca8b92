/- WnA, WnB, WnC: in one text. -/
import Derived.Test.YtpbhfckefmboaaaGreatDoorGp12
set_option linter.unusedVariables false
set_option linter.unusedSimpArgs false
set_option linter.unusedSectionVars false
namespace Go.Proofs.YtpbhfckefmboaaaGreatDoor.Ba
open Go Go.RowKit Go.Lib Go.Base
set_option maxRecDepth 1000000 in
set_option maxHeartbeats 3200000 in
theorem sizeL_any (l : Lg) (h : l.ok)  (w : World) :
    Calls Tryz.prog 28 #[l.val] w fun e w' => e = .returned (.int .i64 (3 * l.term + 128)) ∧ Below w.heap.size w w' := by
  have hb := h.bounds
  have c1 := fun W => size_any l (by omega) (by omega) W
  have c2 := fun W => at_any l h (3 * l.term + 128) W
  clear h
  obtain ⟨base, term, mtu, subs, ini, ses, str⟩ := l
  unfold Lg.val at c1 c2 ⊢
  dsimp only at *
  obtain ⟨m, hm⟩ : ∃ m, 3 * term + 128 = m := ⟨_, rfl⟩
  rw [hm] at c1 c2 ⊢
  obtain ⟨W1, hW1⟩ : ∃ W1, w.alloc (.cells #[.int .i64 base, .int .i64 term, .int .i64 mtu, .int .i64 subs, .int .i32 ini, .int .i32 ses, .int .i32 str] 23) = W1 := ⟨_, rfl⟩
  obtain ⟨A, hA⟩ : ∃ A, w.heap.size = A := ⟨_, rfl⟩
  have u0 : W1.heap[A]? = some (.cells #[.int .i64 base, .int .i64 term, .int .i64 mtu, .int .i64 subs, .int .i32 ini, .int .i32 ses, .int .i32 str] 23 (0, 0)) := by rw [← hW1, ← hA]; exact heap_new _ _
  have u1 : Below A w W1 := by rw [← hW1, ← hA]; exact (Below.refl _ _).alloc (Nat.le_refl _) _
  have u2 : W1.heap.size = A + 1 := by rw [← hW1]; simp [hA]
  have HU := Lib.hid (And.intro u0 (And.intro u1 u2))
  obtain ⟨m0, m1, m2, m3, m4, m5, m6⟩ := blk7 u0
  clear u0 u1 u2 hm
  go_enter Tryz.func28, Tryz.ntmps28
  go_wp2_with fail
  go_region_with
  (first
    | (go_at_call 51
       refine (c1 _).mono ?_
       clear c1
       rintro e w2 ⟨rfl, hB1⟩
       have v0 := (hB1.block A (by have := HU.out.2.2; simp; omega)).trans HU.out.1
       obtain ⟨n0, n1, n2, n3, n4, n5, n6⟩ := blk7 v0
       have HV := Lib.hid (And.intro (HU.out.2.1.drew.trans (hB1.mono (by have := HU.out.2.2; simp; omega))) (show A + 1 ≤ w2.heap.size from Nat.le_trans (Nat.le_of_eq HU.out.2.2.symm) hB1.size))
       clear hB1 v0)
    | (go_at_call 50
       refine (c2 _).mono ?_
       clear c2
       rintro e w3 ⟨rfl, hB2⟩
       have HQ := Lib.hid (HV.out.1.trans (hB2.mono (by have := HV.out.2; first | omega | (simp; omega))))
       clear hB2))
  all_goals go_wp2
  all_goals go_ret
  all_goals refine ⟨by first | rfl | simp, ?_⟩
  all_goals (try rw [hA])
  all_goals exact HQ.out
/-- a setup's other numbers -/
structure Sp where
  wa : Option Addr
  wn : Nat
  wc : Nat
  tries : Int
  polls : Int
  most : Int
  cleans : Int
  timeout : Int
  looks : Int
/-- a setup's cells -/
abbrev spC (l : Lg) (s : Sp) : Array Value := #[.int .i64 l.base, .int .i64 l.term, .int .i64 l.mtu, .int .i64 l.subs, .int .i32 l.ini, .int .i32 l.ses, .int .i32 l.str, .slice s.wa s.wn s.wc, .int .i64 s.tries, .int .i64 s.polls, .int .i64 s.most, .int .i64 s.cleans, .int .i64 s.timeout, .int .i64 s.looks]
theorem blk14 {w : World} {b : Nat} {t : TypeId} {v0 v1 v2 v3 v4 v5 v6 v7 v8 v9 v10 v11 v12 v13 : Value} (h : w.heap[b]? = some (.cells #[v0, v1, v2, v3, v4, v5, v6, v7, v8, v9, v10, v11, v12, v13] t (0, 0))) : w.cell? ⟨b, 0, none⟩ = some v0 ∧ w.cell? ⟨b, 1, none⟩ = some v1 ∧ w.cell? ⟨b, 2, none⟩ = some v2 ∧ w.cell? ⟨b, 3, none⟩ = some v3 ∧ w.cell? ⟨b, 4, none⟩ = some v4 ∧ w.cell? ⟨b, 5, none⟩ = some v5 ∧ w.cell? ⟨b, 6, none⟩ = some v6 ∧ w.cell? ⟨b, 7, none⟩ = some v7 ∧ w.cell? ⟨b, 8, none⟩ = some v8 ∧ w.cell? ⟨b, 9, none⟩ = some v9 ∧ w.cell? ⟨b, 10, none⟩ = some v10 ∧ w.cell? ⟨b, 11, none⟩ = some v11 ∧ w.cell? ⟨b, 12, none⟩ = some v12 ∧ w.cell? ⟨b, 13, none⟩ = some v13 := by
  refine ⟨?_, ?_, ?_, ?_, ?_, ?_, ?_, ?_, ?_, ?_, ?_, ?_, ?_, ?_⟩ <;> simp [World.cell?, h]
/-- what a setup is refused with -/
def spErr (l : Lg) (s : Sp) : Int := if ¬ l.ok ∨ s.timeout < 0 ∨ s.timeout > 1099511627776 then 1 else if (s.wn : Int) > 8 then 12 else 0
set_option maxHeartbeats 3200000 in
set_option maxRecDepth 100000 in
theorem wcheck_any {w : World} {l : Lg} {s : Sp} (hw : l.wf) :
    Calls Tryz.prog 26 #[.agg (spC l s)] w fun e w' => e = .returned (.int .i64 (spErr l s)) ∧ Below w.heap.size w w' := by
  have cC := fun W => check_any l hw W
  unfold Lg.val at cC
  unfold spC
  obtain ⟨X, hX⟩ : ∃ X, w.heap.size = X := ⟨_, rfl⟩
  obtain ⟨V1, hV1⟩ : ∃ V, w.alloc (.cells #[.int .i64 l.base, .int .i64 l.term, .int .i64 l.mtu, .int .i64 l.subs, .int .i32 l.ini, .int .i32 l.ses, .int .i32 l.str, .slice s.wa s.wn s.wc, .int .i64 s.tries, .int .i64 s.polls, .int .i64 s.most, .int .i64 s.cleans, .int .i64 s.timeout, .int .i64 s.looks] 26) = V := ⟨_, rfl⟩
  obtain ⟨b1, r1, s1⟩ := at_new hV1
  rw [hX] at r1 s1 b1
  obtain ⟨c0, c1, c2, c3, c4, c5, c6, c7, c8, c9, c10, c11, c12, c13⟩ := blk14 r1
  have H := Lib.hid (And.intro b1 r1)
  clear b1 r1
  by_cases hl : l.ok
  · have cC' : ∀ W, Calls Tryz.prog 49 #[.agg #[.int .i64 l.base, .int .i64 l.term, .int .i64 l.mtu, .int .i64 l.subs, .int .i32 l.ini, .int .i32 l.ses, .int .i32 l.str]] W fun e w' => e = .returned (.int .i64 0) ∧ Below W.heap.size W w' := fun W => by simpa [hl, errOf] using cC W
    clear cC
    by_cases h1 : s.timeout < 0
    · have hz : spErr l s = 1 := by simp [spErr, h1]
      rw [hz]
      clear hz hl
      go_enter Tryz.func26, Tryz.ntmps26
      go_wp2_with (go_at_call 49; refine (cC' _).mono ?_; rintro e w2 ⟨rfl, hB⟩; have b2 := (hB.block X (by omega)).trans H.out.2; obtain ⟨d0, d1, d2, d3, d4, d5, d6, d7, d8, d9, d10, d11, d12, d13⟩ := blk14 b2; have H2 := Lib.hid hB; clear hB b2)
      go_ret
      exact ⟨rfl, by rw [hX]; exact H.out.1.trans (H2.out.mono (by omega))⟩
    · by_cases h2 : s.timeout > 1099511627776
      · have hz : spErr l s = 1 := by unfold spErr; rw [if_pos (by omega)]
        rw [hz]
        clear hz hl
        go_enter Tryz.func26, Tryz.ntmps26
        go_wp2_with (go_at_call 49; refine (cC' _).mono ?_; rintro e w2 ⟨rfl, hB⟩; have b2 := (hB.block X (by omega)).trans H.out.2; obtain ⟨d0, d1, d2, d3, d4, d5, d6, d7, d8, d9, d10, d11, d12, d13⟩ := blk14 b2; have H2 := Lib.hid hB; clear hB b2)
        go_ret
        exact ⟨rfl, by rw [hX]; exact H.out.1.trans (H2.out.mono (by omega))⟩
      · by_cases h3 : (s.wn : Int) > 8
        · have hz : spErr l s = 12 := by unfold spErr; rw [if_neg (by simp only [not_or, Classical.not_not]; exact ⟨hl, h1, h2⟩), if_pos h3]
          rw [hz]
          clear hz hl
          go_enter Tryz.func26, Tryz.ntmps26
          go_wp2_with (go_at_call 49; refine (cC' _).mono ?_; rintro e w2 ⟨rfl, hB⟩; have b2 := (hB.block X (by omega)).trans H.out.2; obtain ⟨d0, d1, d2, d3, d4, d5, d6, d7, d8, d9, d10, d11, d12, d13⟩ := blk14 b2; have H2 := Lib.hid hB; clear hB b2)
          go_ret
          exact ⟨rfl, by rw [hX]; exact H.out.1.trans (H2.out.mono (by omega))⟩
        · have hz : spErr l s = 0 := by unfold spErr; rw [if_neg (by simp only [not_or, Classical.not_not]; exact ⟨hl, h1, h2⟩), if_neg h3]
          rw [hz]
          clear hz hl
          go_enter Tryz.func26, Tryz.ntmps26
          go_wp2_with (go_at_call 49; refine (cC' _).mono ?_; rintro e w2 ⟨rfl, hB⟩; have b2 := (hB.block X (by omega)).trans H.out.2; obtain ⟨d0, d1, d2, d3, d4, d5, d6, d7, d8, d9, d10, d11, d12, d13⟩ := blk14 b2; have H2 := Lib.hid hB; clear hB b2)
          go_ret
          exact ⟨rfl, by rw [hX]; exact H.out.1.trans (H2.out.mono (by omega))⟩
  · have cC' : ∀ W, Calls Tryz.prog 49 #[.agg #[.int .i64 l.base, .int .i64 l.term, .int .i64 l.mtu, .int .i64 l.subs, .int .i32 l.ini, .int .i32 l.ses, .int .i32 l.str]] W fun e w' => e = .returned (.int .i64 1) ∧ Below W.heap.size W w' := fun W => by simpa [hl, errOf] using cC W
    clear cC
    have hz : spErr l s = 1 := by unfold spErr; rw [if_pos (.inl hl)]
    rw [hz]
    clear hz hl
    go_enter Tryz.func26, Tryz.ntmps26
    go_wp2_with (go_at_call 49; refine (cC' _).mono ?_; rintro e w2 ⟨rfl, hB⟩; have b2 := (hB.block X (by omega)).trans H.out.2; obtain ⟨d0, d1, d2, d3, d4, d5, d6, d7, d8, d9, d10, d11, d12, d13⟩ := blk14 b2; have H2 := Lib.hid hB; clear hB b2)
    go_ret
    exact ⟨rfl, by rw [hX]; exact H.out.1.trans (H2.out.mono (by omega))⟩
end Go.Proofs.YtpbhfckefmboaaaGreatDoor.Ba
namespace Go.Proofs.YtpbhfckefmboaaaGreatDoor.Ba
open Go Go.RowKit Go.Lib Go.Base
/-- a new log's stores all may be -/
theorem stos_ok {l : Lg} (hl : l.ok) {nw : Nat} (hn : 8 * (nw : Int) = l.base + 3 * l.term + 128) : ∀ x ∈ stos l l.subs.toNat, StoOk nw x := by
  obtain ⟨hT, -, -, -, h1, h2, h3, h4, h5⟩ := hl
  have ht : l.term % 8 = 0 ∧ 256 ≤ l.term ∧ l.term ≤ 8192 := by rcases hT with h | h | h | h | h | h <;> omega
  have key : ∀ p n v : Int, l.base + 3 * l.term ≤ p → p + n ≤ l.base + 3 * l.term + 128 → (n = 4 ∨ n = 8) → p % n = 0 → StoOk nw (p, n, v) := fun p n v a b c d => by
    refine ⟨?_, by dsimp only; omega, by dsimp only; omega, by dsimp only; omega⟩
    unfold chkM sizedM
    dsimp only
    rw [hn, if_neg (by simp; omega), if_neg (by omega), if_neg (by omega)]
  intro x hx
  unfold stos stosM stosT at hx
  simp only [List.mem_append, List.mem_map, List.mem_range] at hx
  rcases hx with (⟨i, hi, rfl⟩ | hx) | ⟨i, hi, rfl⟩
  · exact key _ _ _ (by omega) (by omega) (by omega) (by omega)
  · simp at hx
    rcases hx with rfl | rfl | rfl <;> exact key _ _ _ (by omega) (by omega) (by omega) (by omega)
  · exact key _ _ _ (by omega) (by omega) (by omega) (by omega)
/-- a fabric's cells -/
def fabC (l : Lg) (s : Sp) (P : Nat) (wld wv rv wat : Value) (many : Int) : Array Value := #[.int .i64 l.base, .int .i64 l.term, .int .i64 l.mtu, .int .i64 l.subs, .int .i32 l.ini, .int .i32 l.ses, .int .i32 l.str, .slice s.wa s.wn s.wc, .int .i64 s.tries, .int .i64 s.polls, .int .i64 s.most, .int .i64 s.cleans, .int .i64 s.timeout, .int .i64 s.looks, .pointer (some ⟨P, 0, none⟩), wld, wv, rv, wat, .int .i64 many]
/-- a machine's value -/
def ifV (m : TypeId × Value) : Value := .iface m.1 m.2
/-- what stands while a fabric's actors are made -/
structure NwS (w0 : World) (n0 X F P : Nat) (l : Lg) (s : Sp) (k1 k2 : Nat) (wv rv av : Value) (Ms : List (TypeId × Value)) (w : World) : Prop where
  bl : Below n0 w0 w
  nX : n0 ≤ X
  XF : X < F
  sx : w.heap[X]? = some (.cells (spC l s) 26 (0, 0))
  fx : w.heap[F]? = some (.cells (fabC l s P (.pointer none) wv rv (.pointer none) 0) 89 (0, 0))
  wr : ∃ ws, w.ownsRow (F + 1) 90 1 wv k1 ws
  rr : ∃ rs, w.ownsRow (F + 1) 92 1 rv k2 rs
  al : w.ownsRow (F + 1) 118 1 av Ms.length (Ms.map ifV)
theorem NwS.lt {w0 w : World} {n0 X F P k1 k2 : Nat} {l : Lg} {s : Sp} {wv rv av : Value} {Ms : List (TypeId × Value)} (h : NwS w0 n0 X F P l s k1 k2 wv rv av Ms w) : X < w.heap.size ∧ F < w.heap.size := ⟨(Array.getElem?_eq_some_iff.1 h.sx).1, (Array.getElem?_eq_some_iff.1 h.fx).1⟩
theorem NwS.below {w0 w w' : World} {n0 X F P k1 k2 : Nat} {l : Lg} {s : Sp} {wv rv av : Value} {Ms : List (TypeId × Value)} (h : NwS w0 n0 X F P l s k1 k2 wv rv av Ms w) (hb : Below w.heap.size w w') : NwS w0 n0 X F P l s k1 k2 wv rv av Ms w' := by
  have hl := h.lt
  have nX := h.nX
  obtain ⟨ws, hw⟩ := h.wr
  obtain ⟨rs, hr⟩ := h.rr
  exact ⟨h.bl.trans (hb.mono (by omega)), h.nX, h.XF, (hb.block X hl.1).trans h.sx, (hb.block F hl.2).trans h.fx, ⟨ws, own_at hw fun g hg => hb.block g (hw.lt g hg).2⟩, ⟨rs, own_at hr fun g hg => hb.block g (hr.lt g hg).2⟩, own_at h.al fun g hg => hb.block g (h.al.lt g hg).2⟩
theorem own_two {w : World} {n0 m0 n m sz sz' g : Nat} {t t' : TypeId} {v u : Value} {xs ys : List Value} (h : w.ownsRow n0 t sz v n xs) (h' : w.ownsRow m0 t' sz' u m ys) (ht : t ≠ t') (hg : v.ownBlock = some g) : u.ownBlock ≠ some g := by
  intro hu
  rcases h.2 with ⟨rfl, -⟩ | ⟨g1, cap, cur, rfl, -, ho, -⟩
  · cases hg
  rcases h'.2 with ⟨rfl, -⟩ | ⟨g2, cap2, cur2, rfl, -, ho2, -⟩
  · cases hu
  have e1 : g1 = g := by simpa [Value.ownBlock] using hg
  have e2 : g2 = g := by simpa [Value.ownBlock] using hu
  subst e1 e2
  rw [ho] at ho2
  injection ho2 with e
  injection e with _ e _
  exact ht e
/-- a writer is noted -/
theorem NwS.addW {w0 w w3 : World} {n0 X F P k1 k2 : Nat} {l : Lg} {s : Sp} {wv rv av wv' : Value} {Ms : List (TypeId × Value)} {ws' : List Value} (h : NwS w0 n0 X F P l s k1 k2 wv rv av Ms w) (hg : w.grownBy w3 wv.ownBlock) (ho : w3.ownsRow (F + 1) 90 1 wv' (k1 + 1) ws') : NwS w0 n0 X F P l s (k1 + 1) k2 wv' rv av Ms (w3.setCell ⟨F, 16, none⟩ wv') := by
  have hl := h.lt
  have nX := h.nX
  have XF := h.XF
  obtain ⟨ws, hw⟩ := h.wr
  obtain ⟨rs, hr⟩ := h.rr
  have oF : ∀ k, k < w.heap.size → wv.ownBlock ≠ some k → w3.heap[k]? = w.heap[k]? := fun k hk hn => hg.block k hk fun e => hn e.symm
  have nXw : wv.ownBlock ≠ some X := own_neT hw h.sx (by decide)
  have nFw : wv.ownBlock ≠ some F := own_neT hw h.fx (by decide)
  have k3 := (oF F hl.2 nFw).trans h.fx
  refine ⟨below_set (h.bl.grown hg (by have := h.bl.size; omega) fun g hgo => by have := (hw.lt g hgo).1; omega) (by omega), h.nX, h.XF, (set_other (by omega)).trans ((oF X hl.1 nXw).trans h.sx), ?_, ⟨ws', own_at ho fun g hgo => set_other (by have := (ho.lt g hgo).1; omega)⟩, ⟨rs, own_at hr fun g hgo => (set_other (by have := (hr.lt g hgo).1; omega)).trans (oF g (hr.lt g hgo).2 fun e => own_two hr hw (by decide) hgo e)⟩, own_at h.al fun g hgo => (set_other (by have := (h.al.lt g hgo).1; omega)).trans (oF g (h.al.lt g hgo).2 fun e => own_two h.al hw (by decide) hgo e)⟩
  simpa [fabC] using set7 k3 16 wv'
/-- a reader is noted -/
theorem NwS.addR {w0 w w3 : World} {n0 X F P k1 k2 : Nat} {l : Lg} {s : Sp} {wv rv av rv' : Value} {Ms : List (TypeId × Value)} {rs' : List Value} (h : NwS w0 n0 X F P l s k1 k2 wv rv av Ms w) (hg : w.grownBy w3 rv.ownBlock) (ho : w3.ownsRow (F + 1) 92 1 rv' (k2 + 1) rs') : NwS w0 n0 X F P l s k1 (k2 + 1) wv rv' av Ms (w3.setCell ⟨F, 17, none⟩ rv') := by
  have hl := h.lt
  have nX := h.nX
  have XF := h.XF
  obtain ⟨ws, hw⟩ := h.wr
  obtain ⟨rs, hr⟩ := h.rr
  have oF : ∀ k, k < w.heap.size → rv.ownBlock ≠ some k → w3.heap[k]? = w.heap[k]? := fun k hk hn => hg.block k hk fun e => hn e.symm
  have nXw : rv.ownBlock ≠ some X := own_neT hr h.sx (by decide)
  have nFw : rv.ownBlock ≠ some F := own_neT hr h.fx (by decide)
  have k3 := (oF F hl.2 nFw).trans h.fx
  refine ⟨below_set (h.bl.grown hg (by have := h.bl.size; omega) fun g hgo => by have := (hr.lt g hgo).1; omega) (by omega), h.nX, h.XF, (set_other (by omega)).trans ((oF X hl.1 nXw).trans h.sx), ?_, ⟨ws, own_at hw fun g hgo => (set_other (by have := (hw.lt g hgo).1; omega)).trans (oF g (hw.lt g hgo).2 fun e => own_two hw hr (by decide) hgo e)⟩, ⟨rs', own_at ho fun g hgo => set_other (by have := (ho.lt g hgo).1; omega)⟩, own_at h.al fun g hgo => (set_other (by have := (h.al.lt g hgo).1; omega)).trans (oF g (h.al.lt g hgo).2 fun e => own_two h.al hr (by decide) hgo e)⟩
  simpa [fabC] using set7 k3 17 rv'
/-- a machine is noted -/
theorem NwS.addM {w0 w w3 : World} {n0 X F P k1 k2 : Nat} {l : Lg} {s : Sp} {wv rv av av' : Value} {Ms Ms' : List (TypeId × Value)} (h : NwS w0 n0 X F P l s k1 k2 wv rv av Ms w) (hg : w.grownBy w3 av.ownBlock) (ho : w3.ownsRow (F + 1) 118 1 av' (Ms ++ Ms').length ((Ms ++ Ms').map ifV)) : NwS w0 n0 X F P l s k1 k2 wv rv av' (Ms ++ Ms') w3 := by
  have hl := h.lt
  have nX := h.nX
  have XF := h.XF
  obtain ⟨ws, hw⟩ := h.wr
  obtain ⟨rs, hr⟩ := h.rr
  have oF : ∀ k, k < w.heap.size → av.ownBlock ≠ some k → w3.heap[k]? = w.heap[k]? := fun k hk hn => hg.block k hk fun e => hn e.symm
  have nXw : av.ownBlock ≠ some X := own_neT h.al h.sx (by decide)
  have nFw : av.ownBlock ≠ some F := own_neT h.al h.fx (by decide)
  exact ⟨h.bl.grown hg (by have := h.bl.size; omega) fun g hgo => by have := (h.al.lt g hgo).1; omega, h.nX, h.XF, (oF X hl.1 nXw).trans h.sx, (oF F hl.2 nFw).trans h.fx, ⟨ws, own_at hw fun g hgo => oF g (hw.lt g hgo).2 fun e => own_two hw h.al (by decide) hgo e⟩, ⟨rs, own_at hr fun g hgo => oF g (hr.lt g hgo).2 fun e => own_two hr h.al (by decide) hgo e⟩, ho⟩
theorem info_wrt : (Tryz.prog.info? 90).map (fun i => (i.zero, i.size, i.bytes)) = some (some (.pointer none), 1, 8) := by kernel_rfl
theorem info_rdr : (Tryz.prog.info? 92).map (fun i => (i.zero, i.size, i.bytes)) = some (some (.pointer none), 1, 8) := by kernel_rfl
theorem info_mac : (Tryz.prog.info? 118).map (fun i => (i.zero, i.size, i.bytes)) = some (some .nilIface, 1, 16) := by kernel_rfl
end Go.Proofs.YtpbhfckefmboaaaGreatDoor.Ba
namespace Go.Proofs.YtpbhfckefmboaaaGreatDoor.Ba
open Go Go.RowKit Go.Lib Go.Base
/-- each writer's acts stand, and one is made of them -/
def WrsC (w : World) (l : Lg) (s : Sp) : Prop := ∀ j, j < s.wn → ∃ gb go la m lc, s.wa = some ⟨gb, go, none⟩ ∧ gb < w.heap.size ∧ w.cell? ⟨gb, go + j, none⟩ = some (.slice la m lc) ∧ ∀ V, Below w.heap.size w V → Calls Tryz.prog 32 #[l.val, .slice la m lc, .int .i64 s.tries] V fun e w' => ∃ b, e = .returned (.pointer (some ⟨b, 0, none⟩)) ∧ Below V.heap.size V w'
set_option maxHeartbeats 3200000 in
set_option maxRecDepth 100000 in
theorem wnew_no {w : World} {l : Lg} {s : Sp} (hw : l.wf) (hz : spErr l s ≠ 0) :
    Calls Tryz.prog 8 #[.agg (spC l s)] w fun e w' => e = .returned (.tuple #[.pointer none, .int .i64 (spErr l s)]) ∧ Below w.heap.size w w' := by
  have cC := fun W => wcheck_any (w := W) (l := l) (s := s) hw
  obtain ⟨er, her⟩ : ∃ er, spErr l s = er := ⟨_, rfl⟩
  rw [her] at cC hz ⊢
  have ne : ¬ er = 0 := hz
  unfold spC at cC ⊢
  obtain ⟨X, hX⟩ : ∃ X, w.heap.size = X := ⟨_, rfl⟩
  obtain ⟨V1, hV1⟩ : ∃ V, w.alloc (.cells #[.int .i64 l.base, .int .i64 l.term, .int .i64 l.mtu, .int .i64 l.subs, .int .i32 l.ini, .int .i32 l.ses, .int .i32 l.str, .slice s.wa s.wn s.wc, .int .i64 s.tries, .int .i64 s.polls, .int .i64 s.most, .int .i64 s.cleans, .int .i64 s.timeout, .int .i64 s.looks] 26) = V := ⟨_, rfl⟩
  obtain ⟨b1, r1, s1⟩ := at_new hV1
  rw [hX] at r1 s1 b1
  obtain ⟨c0, c1, c2, c3, c4, c5, c6, c7, c8, c9, c10, c11, c12, c13⟩ := blk14 r1
  have H := Lib.hid b1
  clear b1 r1
  go_enter Tryz.func8, Tryz.ntmps8
  go_wp2_with (go_at_call 26; refine (cC _).mono ?_; rintro e w2 ⟨rfl, hB⟩; have H2 := Lib.hid hB; clear hB)
  refine bodyPost_ret (v := .tuple #[.pointer none, .int .i64 er]) (by simp [results, Tryz.results8, go_sem]) rfl ⟨rfl, ?_⟩
  rw [hX]
  exact H.out.trans (H2.out.mono (by omega))
/-- the machine of a new log's numbers, its actor made: Robin may begin -/
theorem rob_of {w0 V : World} {n0 S P Wb nw I : Nat} {ws : Nat → Int} {c : Int} {As : List Nat} {L : List Sto} (hb : Below n0 w0 V) (hP : n0 ≤ P) (hWb : n0 ≤ Wb) (hbuf : Bufw V P Wb nw ws c) (hw : WldR V S P 0 (.slice none 0 0) As) (ha : ActsR V S As [(82, .pointer (some ⟨I, 0, none⟩))]) (hI : InitS V I L) (pI : P < I) (wI : Wb < I) (iS : I < S) : ∃ a, RobS n0 S a I P Wb nw w0 0 L V := by
  obtain ⟨h1, h2⟩ := ha
  match As, h1 with
  | [a], _ =>
    obtain ⟨h3, h4⟩ := h2 0 a _ rfl rfl
    exact ⟨a, hb, ⟨hP, hWb⟩, ⟨ws, c, hbuf⟩, ⟨.slice none 0 0, [], hw, World.ownsRow_nil _ _ _ _, (fun g hg => by cases hg), (fun x hx => by cases hx)⟩, h4, hI, pI, wI, iS, h3⟩
end Go.Proofs.YtpbhfckefmboaaaGreatDoor.Ba
