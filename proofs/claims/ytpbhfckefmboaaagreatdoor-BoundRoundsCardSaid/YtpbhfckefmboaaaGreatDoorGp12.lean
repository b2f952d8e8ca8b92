/- StI, StJ, StK: in one text. -/
import Derived.Test.YtpbhfckefmboaaaGreatDoorGp11
import Derived.Deep.LoopGhost
set_option linter.unusedVariables false
set_option linter.unusedSimpArgs false
set_option linter.unusedSectionVars false
namespace Go.Proofs.YtpbhfckefmboaaaGreatDoor.Ba
open Go Go.RowKit Go.Lib Go.Base
/-- a reader's cells, as far as they matter -/
structure RdC (C : Array Value) (l : Lg) (B : Nat) (sub times most e : Int) : Prop where
  size : C.size = 17
  log : LogAt C 4 l
  sub : C[11]? = some (.int .i64 sub)
  times : C[12]? = some (.int .i64 times)
  most : C[13]? = some (.int .i64 most)
  e : C[16]? = some (.int .i64 e)
  more : C[1]? = some (.func (.func 67) #[.pointer (some ⟨B, 0, none⟩)] #[])
  ended : C[2]? = some (.func (.func 68) #[.pointer (some ⟨B, 0, none⟩)] #[])
theorem RdC.set {C : Array Value} {l : Lg} {B k : Nat} {sub times most e : Int} {v : Value} (h : RdC C l B sub times most e) (hk : k = 0 ∨ k = 3) : RdC (C.setIfInBounds k v) l B sub times most e := by
  have q : ∀ j, j ≠ k → (C.setIfInBounds k v)[j]? = C[j]? := fun j hj => Array.getElem?_setIfInBounds_ne (Ne.symm hj)
  obtain ⟨g0, g1, g2, g3, g4, g5, g6⟩ := h.log
  exact ⟨by simp [h.size], ⟨(q _ (by omega)).trans g0, (q _ (by omega)).trans g1, (q _ (by omega)).trans g2, (q _ (by omega)).trans g3, (q _ (by omega)).trans g4, (q _ (by omega)).trans g5, (q _ (by omega)).trans g6⟩, (q _ (by omega)).trans h.sub, (q _ (by omega)).trans h.times, (q _ (by omega)).trans h.most, (q _ (by omega)).trans h.e, (q _ (by omega)).trans h.more, (q _ (by omega)).trans h.ended⟩
theorem RdC.setT {C : Array Value} {l : Lg} {B : Nat} {sub times t most e : Int} (h : RdC C l B sub times most e) : RdC (C.setIfInBounds 12 (.int .i64 t)) l B sub t most e := by
  have q : ∀ j, j ≠ 12 → (C.setIfInBounds 12 (.int .i64 t))[j]? = C[j]? := fun j hj => Array.getElem?_setIfInBounds_ne (Ne.symm hj)
  obtain ⟨g0, g1, g2, g3, g4, g5, g6⟩ := h.log
  exact ⟨by simp [h.size], ⟨(q _ (by omega)).trans g0, (q _ (by omega)).trans g1, (q _ (by omega)).trans g2, (q _ (by omega)).trans g3, (q _ (by omega)).trans g4, (q _ (by omega)).trans g5, (q _ (by omega)).trans g6⟩, (q _ (by omega)).trans h.sub, by simp [Array.getElem?_setIfInBounds, h.size], (q _ (by omega)).trans h.most, (q _ (by omega)).trans h.e, (q _ (by omega)).trans h.more, (q _ (by omega)).trans h.ended⟩
theorem RdC.setE {C : Array Value} {l : Lg} {B : Nat} {sub times t most e : Int} (h : RdC C l B sub times most e) : RdC (C.setIfInBounds 16 (.int .i64 t)) l B sub times most t := by
  have q : ∀ j, j ≠ 16 → (C.setIfInBounds 16 (.int .i64 t))[j]? = C[j]? := fun j hj => Array.getElem?_setIfInBounds_ne (Ne.symm hj)
  obtain ⟨g0, g1, g2, g3, g4, g5, g6⟩ := h.log
  exact ⟨by simp [h.size], ⟨(q _ (by omega)).trans g0, (q _ (by omega)).trans g1, (q _ (by omega)).trans g2, (q _ (by omega)).trans g3, (q _ (by omega)).trans g4, (q _ (by omega)).trans g5, (q _ (by omega)).trans g6⟩, (q _ (by omega)).trans h.sub, (q _ (by omega)).trans h.times, (q _ (by omega)).trans h.most, by simp [Array.getElem?_setIfInBounds, h.size], (q _ (by omega)).trans h.more, (q _ (by omega)).trans h.ended⟩
/-- a poll that a reader has: it wants something, or was refused -/
def PollR (w : World) (c : Nat) (l : Lg) (sub most : Int) : Prop := (1 ≤ most ∧ ∃ C', w.heap[c]? = some (.cells C' 231 (0, 0)) ∧ WantC C') ∨ (most < 1 ∧ w.heap[c]? = some (.cells (pollC l sub most 1) 231 (0, 0)))
theorem PollR.kept {w w' : World} {c : Nat} {l : Lg} {sub most : Int} (h : PollR w c l sub most) (hk : w'.heap[c]? = w.heap[c]?) : PollR w' c l sub most := by
  rcases h with ⟨h1, C', h2, h3⟩ | ⟨h1, h2⟩
  · exact .inl ⟨h1, C', hk.trans h2, h3⟩
  · exact .inr ⟨h1, hk.trans h2⟩
theorem PollR.lt {w : World} {c : Nat} {l : Lg} {sub most : Int} (h : PollR w c l sub most) : c < w.heap.size := by
  rcases h with ⟨h1, C', h2, h3⟩ | ⟨h1, h2⟩
  · exact (Array.getElem?_eq_some_iff.1 h2).1
  · exact (Array.getElem?_eq_some_iff.1 h2).1
theorem rdS {W : World} {B : Nat} {l : Lg} {C : Array Value} {t : TypeId} {sub times most e : Int} (hB : W.heap[B]? = some (.cells C t (0, 0))) (h : RdC C l B sub times most e) : W.cell? ⟨B, 4, none⟩ = some (.int .i64 l.base) ∧ W.cell? ⟨B, 5, none⟩ = some (.int .i64 l.term) ∧ W.cell? ⟨B, 6, none⟩ = some (.int .i64 l.mtu) ∧ W.cell? ⟨B, 7, none⟩ = some (.int .i64 l.subs) ∧ W.cell? ⟨B, 8, none⟩ = some (.int .i32 l.ini) ∧ W.cell? ⟨B, 9, none⟩ = some (.int .i32 l.ses) ∧ W.cell? ⟨B, 10, none⟩ = some (.int .i32 l.str) ∧ W.cell? ⟨B, 11, none⟩ = some (.int .i64 sub) ∧ W.cell? ⟨B, 13, none⟩ = some (.int .i64 most) := by
  obtain ⟨g0, g1, g2, g3, g4, g5, g6⟩ := h.log
  exact ⟨cells_at hB g0, cells_at hB g1, cells_at hB g2, cells_at hB g3, cells_at hB g4, cells_at hB g5, cells_at hB g6, cells_at hB h.sub, cells_at hB h.most⟩
set_option maxHeartbeats 3200000 in
set_option maxRecDepth 100000 in
theorem rmore_any {w : World} {B : Nat} {l : Lg} (hl : l.ok) {C : Array Value} {t : TypeId} {sub times most e : Int} (h : w.heap[B]? = some (.cells C t (0, 0))) (hC : RdC C l B sub times most e) (hs : 0 ≤ sub ∧ sub < l.subs) (htb : times ≤ 65536) :
    Calls Tryz.prog 67 #[.pointer (some ⟨B, 0, none⟩)] w fun e w' => (e = .returned (.tuple #[.pointer none, .bool false]) ∧ w' = w) ∨ (∃ c, e = .returned (.tuple #[.pointer (some ⟨c, 0, none⟩), .bool true]) ∧ 1 ≤ times ∧ Turn2 B B w w' ∧ w.heap.size ≤ c ∧ w'.heap[B]? = some (.cells (C.setIfInBounds 12 (.int .i64 (times - 1))) t (0, 0)) ∧ PollR w' c l sub most) := by
  have c12 := cells_at h hC.times
  have z12 := cells_fr h (o := 12) (by rw [hC.size]; omega)
  have hBl := (Array.getElem?_eq_some_iff.1 h).1
  by_cases ht1 : times < 1
  · clear h hC
    go_enter Tryz.func67, Tryz.ntmps67
    go_wp2
    exact bodyPost_ret (v := .tuple #[.pointer none, .bool false]) (by simp [results, Tryz.results67, go_sem]) rfl (.inl ⟨rfl, rfl⟩)
  · have q1 : IntKind.i64.wrap (times - 1) = times - 1 := wrap_small _ (by omega) (by omega)
    obtain ⟨V, hV⟩ : ∃ V, w.setCell ⟨B, 12, none⟩ (.int .i64 (times - 1)) = V := ⟨_, rfl⟩
    have h2 : V.heap[B]? = _ := hV ▸ set7 h 12 (.int .i64 (times - 1))
    have hC2 := hC.setT (t := times - 1)
    have T2 : Turn2 B B w V := hV ▸ Turn2.setP
    have cN := fun W => poll_any (w := W) hl (sub := sub) (most := most) hs
    unfold Lg.val at cN
    have HS2 := rdS h2 hC2
    have HS := Lib.hid (And.intro cN (And.intro h2 (And.intro hC2 T2)))
    clear h2 cN h hC hC2 T2
    go_enter Tryz.func67, Tryz.ntmps67
    go_wp2_with fail
    go_region_held3 (fun W => W.cell? ⟨B, 4, none⟩ = some (.int .i64 l.base) ∧ W.cell? ⟨B, 5, none⟩ = some (.int .i64 l.term) ∧ W.cell? ⟨B, 6, none⟩ = some (.int .i64 l.mtu) ∧ W.cell? ⟨B, 7, none⟩ = some (.int .i64 l.subs) ∧ W.cell? ⟨B, 8, none⟩ = some (.int .i32 l.ini) ∧ W.cell? ⟨B, 9, none⟩ = some (.int .i32 l.ses) ∧ W.cell? ⟨B, 10, none⟩ = some (.int .i32 l.str) ∧ W.cell? ⟨B, 11, none⟩ = some (.int .i64 sub) ∧ W.cell? ⟨B, 13, none⟩ = some (.int .i64 most))
      (first | exact HS3.out | exact HS2)
      (first
      | (go_at_call 96
         refine (HS.out.1 _).mono ?_
         rintro e w1 ⟨c, rfl, hB, hc, hp⟩
         have b1 : Below V.heap.size V w1 := (Below.refl V.heap.size V).drew.trans hB
         have k1 := (b1.block B (Array.getElem?_eq_some_iff.1 HS.out.2.1).1).trans HS.out.2.1
         have H1 := Lib.hid (And.intro b1 (And.intro k1 (And.intro (show V.heap.size ≤ c from hc) hp)))
         have HS3 := Lib.hid (rdS k1 HS.out.2.2.1)
         clear b1 k1 hB hc hp))
    all_goals go_wp2
    all_goals refine bodyPost_ret (v := .tuple #[.pointer (some ⟨c, 0, none⟩), .bool true]) (by simp [results, Tryz.results67, go_sem]) rfl (.inr ⟨c, rfl, by omega, HS.out.2.2.2.trans (.of H1.out.1), Nat.le_trans HS.out.2.2.2.size H1.out.2.2.1, H1.out.2.1, H1.out.2.2.2⟩)
set_option maxHeartbeats 3200000 in
set_option maxRecDepth 100000 in
theorem rended_no {w : World} {B c : Nat} {l : Lg} {C : Array Value} {t : TypeId} {sub times most e : Int} (h : w.heap[B]? = some (.cells C t (0, 0))) (hC : RdC C l B sub times most e) (hp : w.heap[c]? = some (.cells (pollC l sub most 1) 231 (0, 0))) (hne : c ≠ B) :
    Calls Tryz.prog 68 #[.pointer (some ⟨B, 0, none⟩), .pointer (some ⟨c, 0, none⟩)] w fun e' w' => e' = .returned (.tuple #[]) ∧ Turn2 B B w w' ∧ ∃ C' e', w'.heap[B]? = some (.cells C' t (0, 0)) ∧ RdC C' l B sub times most e' := by
  have cR := pres_no hp
  have hBl := (Array.getElem?_eq_some_iff.1 h).1
  have hcl := (Array.getElem?_eq_some_iff.1 hp).1
  have H := Lib.hid (And.intro h (And.intro hC hp))
  have HR := Lib.hid cR
  clear h hC hp cR
  by_cases he : e = 0
  · subst he
    go_enter Tryz.func68, Tryz.ntmps68
    go_wp2_with (first
      | (go_at_call 97
         refine HR.out.mono ?_
         rintro e w1 ⟨rfl, hB⟩
         have k1 := (hB.block B hBl).trans H.out.1
         have c16 := cells_at k1 H.out.2.1.e
         have z16 := cells_fr k1 (o := 16) (by rw [H.out.2.1.size]; omega)
         obtain ⟨V, hV⟩ : ∃ V, w1.setCell ⟨B, 16, none⟩ (.int .i64 1) = V := ⟨_, rfl⟩
         have k2 : V.heap[B]? = _ := hV ▸ set7 k1 16 (.int .i64 1)
         have p2 : V.heap[c]? = _ := hV ▸ (set_other hne).trans ((hB.block c hcl).trans H.out.2.2)
         have H1 := Lib.hid (And.intro (show Turn2 B B w V from hV ▸ (Turn2.of hB).trans Turn2.setP) (And.intro k2 p2))
         clear hB k1 k2 p2)
      | (go_at_call 98
         refine (pfrag_no H1.out.2.2).mono ?_
         rintro e w2 ⟨rfl, hB⟩
         have H2 := Lib.hid hB
         clear hB))
    refine wp_loop_rounds 1 ?_
    iterate 2 (try rw [rounds_succ]; go_wp2)
    go_end0
    exact ⟨rfl, H1.out.1.trans (.of H2.out), _, _, (H2.out.block B (Array.getElem?_eq_some_iff.1 H1.out.2.1).1).trans H1.out.2.1, H.out.2.1.setE⟩
  · go_enter Tryz.func68, Tryz.ntmps68
    go_wp2_with (first
      | (go_at_call 97
         refine HR.out.mono ?_
         rintro e' w1 ⟨rfl, hB⟩
         have k1 := (hB.block B hBl).trans H.out.1
         have c16 := cells_at k1 H.out.2.1.e
         have p1 := (hB.block c hcl).trans H.out.2.2
         have H1 := Lib.hid (And.intro hB (And.intro k1 p1))
         clear hB k1 p1)
      | (go_at_call 98
         refine (pfrag_no H1.out.2.2).mono ?_
         rintro e' w2 ⟨rfl, hB⟩
         have H2 := Lib.hid hB
         clear hB))
    refine wp_loop_rounds 1 ?_
    iterate 2 (try rw [rounds_succ]; go_wp2)
    go_end0
    exact ⟨rfl, (Turn2.of H1.out.1).trans (.of H2.out), _, _, (H2.out.block B (Array.getElem?_eq_some_iff.1 H1.out.2.1).1).trans H1.out.2.1, H.out.2.1⟩
end Go.Proofs.YtpbhfckefmboaaaGreatDoor.Ba
namespace Go.Proofs.YtpbhfckefmboaaaGreatDoor.Ba
open Go Go.RowKit Go.Lib Go.Base
set_option maxRecDepth 100000 in
theorem meth_poll {n : Nat} (hn : n = Tryz.prog.types.size + Made.depth) (v : Option Addr) (w : World) : Sem.run Tryz.prog (method n 146 (.pointer v) "Next") w = .ok (283, .pointer v) w := by
  subst hn
  kernel_rfl
set_option maxRecDepth 100000 in
theorem call_poll (v : Value) (w : World) : Sem.run Tryz.prog (callFunc 283 #[v]) w = .ok (.enter 283 #[v]) w := by
  kernel_rfl
/-- where a reader's chain stands, so many rounds ahead of its end -/
def ChnR (l : Lg) (B : Nat) (t : TypeId) (sub most : Int) (w : World) (k : Nat) (V : World) : Prop := Turn2 B B w V ∧ ∃ C times e, V.heap[B]? = some (.cells C t (0, 0)) ∧ RdC C l B sub times most e ∧ times ≤ 65536 ∧ ((C[3]? = some (.bool false) ∧ k = 0) ∨ ∃ c, C[0]? = some (.pointer (some ⟨c, 0, none⟩)) ∧ C[3]? = some (.bool true) ∧ c ≠ B ∧ PollR V c l sub most ∧ k = (max times 0).toNat + 1)
set_option maxHeartbeats 3200000 in
set_option maxRecDepth 100000 in
theorem rsettle_any {w V0 : World} {B k0 : Nat} {l : Lg} (hl : l.ok) {t : TypeId} {sub most : Int} (hs : 0 ≤ sub ∧ sub < l.subs) (h : ChnR l B t sub most w k0 V0) :
    Calls Tryz.prog 100 #[.pointer (some ⟨B, 0, none⟩)] V0 fun e w' => e = .returned (.tuple #[]) ∧ Turn2 B B w w' := by
  have H := Lib.hid h
  clear h
  go_enter Tryz.func100, Tryz.ntmps100
  go_wp2_with fail
  go_loopg [] k0 (fun k wr => Hid (ChnR l B t sub most w k wr))
  case atStart => exact H
  case round =>
    obtain ⟨hT, C, times, e0, hB, hC, htb, ⟨h3, hk⟩ | ⟨c, h0, h3, hcB, hp, hk⟩⟩ := hrel.out
    · have c3 := cells_at hB h3
      have HT := Lib.hid hT
      clear hT hB hC h3 hrel H
      go_wp2
      go_end0
      exact ⟨rfl, HT.out⟩
    · have c3 := cells_at hB h3
      have c0 := cells_at hB h0
      clear hrel H
      rcases hp with ⟨hm, C', hc, hW⟩ | ⟨hm, hc⟩
      · have cN := Lib.hid (pnext_any hc hW)
        have HT := Lib.hid hT
        clear hT hB hC h3 h0 hc hW
        go_wp2_with fail
        rw [meth_poll (by kernel_rfl)]
        simp only [Result.andThen, call_poll]
        refine cN.out.mono ?_
        rintro e w1 ⟨⟨k, p, n, v, u, ba, bn, bc, rfl⟩, hB⟩
        unfold accM
        obtain ⟨X, hX⟩ : ∃ X, w1.heap.size = X := ⟨_, rfl⟩
        obtain ⟨V1, hV1⟩ : ∃ V, w1.alloc (.cells #[.int .i64 0, .int .i64 0, .int .i64 0, .int .u64 0, .int .u64 0, .slice none 0 0] 40) = V := ⟨_, rfl⟩
        obtain ⟨b1, r1, s1⟩ := at_new hV1
        rw [hX] at r1
        obtain ⟨d0, d1, d2, d3, d4, d5⟩ := blk6 r1
        have y0 := froz6 r1 0
        have y1 := froz6 r1 1
        have y2 := froz6 r1 2
        have y3 := froz6 r1 3
        have y4 := froz6 r1 4
        have y5 := froz6 r1 5
        obtain ⟨u1, u2⟩ := putA_new (k := k) (p := p) (n := n) (v := v) (u := u) (s := .slice ba bn bc) hX b1 r1
        have H1 := Lib.hid (HT.out.trans (.of (hB.trans (u1.mono hB.size))))
        clear hB b1 r1 u1 u2 s1 cN
        go_wp2
        refine bodyPost_ret (v := .tuple #[]) (by simp [results, Tryz.results100, go_sem]) rfl ⟨rfl, ?_⟩
        have h1 := H1.out
        unfold putA at h1
        exact h1
      · have cN := Lib.hid (pnext_no hc)
        have HC := Lib.hid (And.intro hT (And.intro hB (And.intro hC hc)))
        have HZ := Lib.hid (And.intro h0 h3)
        clear hT hB hC h3 h0 hc
        go_wp2_with fail
        rw [meth_poll (by kernel_rfl)]
        simp only [Result.andThen, call_poll]
        refine cN.out.mono ?_
        rintro e w1 ⟨rfl, hB⟩
        unfold accM
        obtain ⟨X, hX⟩ : ∃ X, w1.heap.size = X := ⟨_, rfl⟩
        obtain ⟨V1, hV1⟩ : ∃ V, w1.alloc (.cells #[.int .i64 0, .int .i64 0, .int .i64 0, .int .u64 0, .int .u64 0, .slice none 0 0] 40) = V := ⟨_, rfl⟩
        obtain ⟨b1, r1, s1⟩ := at_new hV1
        rw [hX] at r1
        obtain ⟨d0, d1, d2, d3, d4, d5⟩ := blk6 r1
        have y0 := froz6 r1 0
        have y1 := froz6 r1 1
        have y2 := froz6 r1 2
        have y3 := froz6 r1 3
        have y4 := froz6 r1 4
        have y5 := froz6 r1 5
        obtain ⟨u1, u2⟩ := putA_new (k := 0) (p := 0) (n := 0) (v := 0) (u := 0) (s := .slice none 0 0) hX b1 r1
        obtain ⟨V2, hV2⟩ : ∃ V, putA V1 X 0 0 0 0 0 (.slice none 0 0) = V := ⟨_, rfl⟩
        rw [hV2] at u1
        have b2 : Below wr.heap.size wr V2 := hB.trans (u1.mono hB.size)
        have kB := (b2.block B (Array.getElem?_eq_some_iff.1 HC.out.2.1).1).trans HC.out.2.1
        have kc := (b2.block c (Array.getElem?_eq_some_iff.1 HC.out.2.2.2).1).trans HC.out.2.2.2
        have e2 := cells_at kB HC.out.2.2.1.ended
        have e0' := cells_at kB HZ.out.1
        have cE := rended_no (w := V2.drew) kB HC.out.2.2.1 kc hcB
        have H2 := Lib.hid (And.intro (HC.out.1.trans (.of b2)) cE)
        unfold putA at hV2
        clear hB b1 r1 u1 u2 s1 cN kB kc cE b2
        go_wp2_with fail
        go_region_with (go_at_call 68
                        refine H2.out.2.mono ?_
                        rintro e w3 ⟨rfl, hT3, C3, e3, hB3, hC3⟩
                        have c1 := cells_at hB3 hC3.more
                        have H3 := Lib.hid (And.intro (H2.out.1.trans ((Turn2.of ((Below.refl V2.heap.size V2).drew)).trans hT3)) (And.intro hB3 (And.intro hC3 (rmore_any hl hB3 hC3 hs htb))))
                        clear hT3 hB3 hC3)
        all_goals (
          clear d0 d1 d2 d3 d4 d5 y0 y1 y2 y3 y4 y5 e2 e0' c0 c3 hV1 hV2
          go_wp2_with fail
          refine H3.out.2.2.2.mono ?_
          rintro e w4 (⟨rfl, rfl⟩ | ⟨c2, rfl, ht1, hT4, hc4, hB4, hp4⟩)
          · obtain ⟨v0, x0⟩ := arr_some (C := C3) (o := 0) (by rw [H3.out.2.2.1.size]; omega)
            obtain ⟨v3, x3⟩ := arr_some (C := C3) (o := 3) (by rw [H3.out.2.2.1.size]; omega)
            have k0' := cells_at H3.out.2.1 x0
            have k3' := cells_at H3.out.2.1 x3
            have z0' := cells_fr H3.out.2.1 (o := 0) (by rw [H3.out.2.2.1.size]; omega)
            have z3' := cells_fr H3.out.2.1 (o := 3) (by rw [H3.out.2.2.1.size]; omega)
            obtain ⟨W5, hW5⟩ : ∃ V, (w4.setCell ⟨B, 0, none⟩ (.pointer none)).setCell ⟨B, 3, none⟩ (.bool false) = V := ⟨_, rfl⟩
            have r5 : W5.heap[B]? = _ := hW5 ▸ set7 (set7 H3.out.2.1 0 (.pointer none)) 3 (.bool false)
            have HR := Lib.hid (show ChnR l B t sub most w 0 W5 from ⟨H3.out.1.trans (hW5 ▸ Turn2.setP.trans .setP), _, times, e3, r5, (H3.out.2.2.1.set (.inl rfl)).set (.inr rfl), htb, .inl ⟨by simp [Array.getElem?_setIfInBounds, H3.out.2.2.1.size], rfl⟩⟩)
            clear r5 x0 x3
            go_wp2_with fail
            go_roundg 0
            case measure => omega
            case rel => exact HR
          · obtain ⟨C4, hC4⟩ : ∃ C4, C3.setIfInBounds 12 (.int .i64 (times - 1)) = C4 := ⟨_, rfl⟩
            have q4 : RdC C4 l B sub (times - 1) most e3 := hC4 ▸ H3.out.2.2.1.setT
            rw [hC4] at hB4
            obtain ⟨v0, x0⟩ := arr_some (C := C4) (o := 0) (by rw [q4.size]; omega)
            obtain ⟨v3, x3⟩ := arr_some (C := C4) (o := 3) (by rw [q4.size]; omega)
            have k0' := cells_at hB4 x0
            have k3' := cells_at hB4 x3
            have z0' := cells_fr hB4 (o := 0) (by rw [q4.size]; omega)
            have z3' := cells_fr hB4 (o := 3) (by rw [q4.size]; omega)
            have hBl3 := (Array.getElem?_eq_some_iff.1 H3.out.2.1).1
            obtain ⟨W5, hW5⟩ : ∃ V, (w4.setCell ⟨B, 0, none⟩ (.pointer (some ⟨c2, 0, none⟩))).setCell ⟨B, 3, none⟩ (.bool true) = V := ⟨_, rfl⟩
            have r5 : W5.heap[B]? = _ := hW5 ▸ set7 (set7 hB4 0 (.pointer (some ⟨c2, 0, none⟩))) 3 (.bool true)
            have p5 : PollR W5 c2 l sub most := hp4.kept (hW5 ▸ (set_other (by omega)).trans (set_other (by omega)))
            have HR := Lib.hid (show ChnR l B t sub most w ((max (times - 1) 0).toNat + 1) W5 from ⟨(H3.out.1.trans hT4).trans (hW5 ▸ Turn2.setP.trans .setP), _, times - 1, e3, r5, (q4.set (.inl rfl)).set (.inr rfl), by omega, .inr ⟨c2, by simp [Array.getElem?_setIfInBounds, q4.size], by simp [Array.getElem?_setIfInBounds, q4.size], by omega, p5, rfl⟩⟩)
            clear r5 x0 x3 hp4 p5 hT4 hB4 q4
            go_wp2_with fail
            go_roundg ((max (times - 1) 0).toNat + 1)
            case measure => omega
            case rel => exact HR)
end Go.Proofs.YtpbhfckefmboaaaGreatDoor.Ba
namespace Go.Proofs.YtpbhfckefmboaaaGreatDoor.Ba
open Go Go.RowKit Go.Lib Go.Base
set_option maxHeartbeats 3200000 in
set_option maxRecDepth 100000 in
theorem rstart_any {w : World} {B : Nat} {l : Lg} (hl : l.ok) {C : Array Value} {t : TypeId} {sub times most e0 : Int} (h : w.heap[B]? = some (.cells C t (0, 0))) (hC : RdC C l B sub times most e0) (hs : 0 ≤ sub ∧ sub < l.subs) (htb : times ≤ 65536) :
    Calls Tryz.prog 69 #[.pointer (some ⟨B, 0, none⟩)] w fun e w' => e = .returned (.tuple #[]) ∧ Turn2 B B w w' := by
  have c1 := cells_at h hC.more
  have hm := rmore_any hl h hC hs htb
  have H := Lib.hid (And.intro h (And.intro hC hm))
  clear h hm hC
  go_enter Tryz.func69, Tryz.ntmps69
  go_wp2_with fail
  refine H.out.2.2.mono ?_
  rintro e w4 (⟨rfl, rfl⟩ | ⟨c2, rfl, ht1, hT4, hc4, hB4, hp4⟩)
  · obtain ⟨v0, x0⟩ := arr_some (C := C) (o := 0) (by rw [H.out.2.1.size]; omega)
    obtain ⟨v3, x3⟩ := arr_some (C := C) (o := 3) (by rw [H.out.2.1.size]; omega)
    have k0' := cells_at H.out.1 x0
    have k3' := cells_at H.out.1 x3
    have z0' := cells_fr H.out.1 (o := 0) (by rw [H.out.2.1.size]; omega)
    have z3' := cells_fr H.out.1 (o := 3) (by rw [H.out.2.1.size]; omega)
    obtain ⟨W5, hW5⟩ : ∃ V, (w4.setCell ⟨B, 0, none⟩ (.pointer none)).setCell ⟨B, 3, none⟩ (.bool false) = V := ⟨_, rfl⟩
    have r5 : W5.heap[B]? = _ := hW5 ▸ set7 (set7 H.out.1 0 (.pointer none)) 3 (.bool false)
    have HR := Lib.hid (rsettle_any hl hs (show ChnR l B t sub most w4 0 W5 from ⟨hW5 ▸ Turn2.setP.trans .setP, _, times, e0, r5, (H.out.2.1.set (.inl rfl)).set (.inr rfl), htb, .inl ⟨by simp [Array.getElem?_setIfInBounds, H.out.2.1.size], rfl⟩⟩))
    clear r5 x0 x3
    go_wp2_with (go_at_call 100; refine HR.out.mono ?_; rintro e w6 ⟨rfl, hT⟩; have H6 := Lib.hid hT; clear hT)
    go_end0
    exact ⟨rfl, H6.out⟩
  · obtain ⟨C4, hC4⟩ : ∃ C4, C.setIfInBounds 12 (.int .i64 (times - 1)) = C4 := ⟨_, rfl⟩
    have q4 : RdC C4 l B sub (times - 1) most e0 := hC4 ▸ H.out.2.1.setT
    rw [hC4] at hB4
    obtain ⟨v0, x0⟩ := arr_some (C := C4) (o := 0) (by rw [q4.size]; omega)
    obtain ⟨v3, x3⟩ := arr_some (C := C4) (o := 3) (by rw [q4.size]; omega)
    have k0' := cells_at hB4 x0
    have k3' := cells_at hB4 x3
    have z0' := cells_fr hB4 (o := 0) (by rw [q4.size]; omega)
    have z3' := cells_fr hB4 (o := 3) (by rw [q4.size]; omega)
    have hBl3 := (Array.getElem?_eq_some_iff.1 H.out.1).1
    obtain ⟨W5, hW5⟩ : ∃ V, (w4.setCell ⟨B, 0, none⟩ (.pointer (some ⟨c2, 0, none⟩))).setCell ⟨B, 3, none⟩ (.bool true) = V := ⟨_, rfl⟩
    have r5 : W5.heap[B]? = _ := hW5 ▸ set7 (set7 hB4 0 (.pointer (some ⟨c2, 0, none⟩))) 3 (.bool true)
    have p5 : PollR W5 c2 l sub most := hp4.kept (hW5 ▸ (set_other (by omega)).trans (set_other (by omega)))
    have HR := Lib.hid (rsettle_any hl hs (show ChnR l B t sub most w ((max (times - 1) 0).toNat + 1) W5 from ⟨hT4.trans (hW5 ▸ Turn2.setP.trans .setP), _, times - 1, e0, r5, (q4.set (.inl rfl)).set (.inr rfl), by omega, .inr ⟨c2, by simp [Array.getElem?_setIfInBounds, q4.size], by simp [Array.getElem?_setIfInBounds, q4.size], by omega, p5, rfl⟩⟩))
    clear r5 x0 x3 hp4 p5 hT4 hB4 q4
    go_wp2_with (go_at_call 100; refine HR.out.mono ?_; rintro e w6 ⟨rfl, hT⟩; have H6 := Lib.hid hT; clear hT)
    go_end0
    exact ⟨rfl, H6.out⟩
theorem jnew_any (w : World) : Calls Tryz.prog 66 #[] w fun e w' => ∃ j, e = .returned (.pointer (some ⟨j, 0, none⟩)) ∧ Below w.heap.size w w' := by
  go_enter Tryz.func66, Tryz.ntmps66
  go_wp2
  go_ret
  exact ⟨_, rfl, (Below.refl _ _).alloc (Nat.le_refl _) _⟩
/-- a reader's cells as it is made -/
def readC (l : Lg) (f1 f2 : Value) (sub times most : Int) (j : Value) : Array Value := #[.pointer none, f1, f2, .bool false, .int .i64 l.base, .int .i64 l.term, .int .i64 l.mtu, .int .i64 l.subs, .int .i32 l.ini, .int .i32 l.ses, .int .i32 l.str, .int .i64 sub, .int .i64 times, .int .i64 most, j, .slice none 0 0, .int .i64 0]
set_option maxHeartbeats 3200000 in
set_option maxRecDepth 100000 in
theorem read_any {w : World} {l : Lg} (hl : l.ok) {sub polls most : Int} (hs : 0 ≤ sub ∧ sub < l.subs) :
    Calls Tryz.prog 33 #[l.val, .int .i64 sub, .int .i64 polls, .int .i64 most] w fun e w' => ∃ B, e = .returned (.pointer (some ⟨B, 0, none⟩)) ∧ Below w.heap.size w w' ∧ w.heap.size ≤ B := by
  unfold Lg.val
  obtain ⟨X, hX⟩ : ∃ X, w.heap.size = X := ⟨_, rfl⟩
  obtain ⟨tm, htb, htm⟩ : ∃ tm : Int, tm ≤ 65536 ∧ ((polls ≤ 65536 ∧ tm = polls) ∨ (¬ polls ≤ 65536 ∧ tm = 65536)) := by
    by_cases h : polls ≤ 65536
    · exact ⟨polls, h, .inl ⟨h, rfl⟩⟩
    · exact ⟨65536, by omega, .inr ⟨h, rfl⟩⟩
  obtain ⟨V1, hV1⟩ : ∃ V, w.alloc (.cells #[.int .i64 l.base, .int .i64 l.term, .int .i64 l.mtu, .int .i64 l.subs, .int .i32 l.ini, .int .i32 l.ses, .int .i32 l.str] 23) = V := ⟨_, rfl⟩
  obtain ⟨b1, r1, s1⟩ := at_new hV1
  rw [hX] at r1 s1 b1
  obtain ⟨m0, m1, m2, m3, m4, m5, m6⟩ := blk7 r1
  have hst : ∀ (a : Addr) (g : FuncId) (u v : Array Value) (m : Mode) (w : World), (store a (.func (.func g) u v) m).run Tryz.prog w = stored Tryz.prog w a (.func (.func g) u v) m := fun _ _ _ _ _ _ => rfl
  have H := Lib.hid (And.intro b1 r1)
  clear b1 r1
  rcases htm with ⟨hlk, rfl⟩ | ⟨hlk, rfl⟩
  · go_enter Tryz.func33, Tryz.ntmps33
    go_wp2_with fail
    go_region_with (go_at_call 66
                    refine (jnew_any _).mono ?_
                    rintro e w2 ⟨j, rfl, hB2⟩
                    have b2 : Below V1.heap.size V1 w2 := (Below.refl V1.heap.size V1).drew.trans hB2
                    obtain ⟨n0, n1, n2, n3, n4, n5, n6⟩ := blk7 ((b2.block X (by omega)).trans H.out.2)
                    obtain ⟨B, hBn⟩ : ∃ B, w2.heap.size = B := ⟨_, rfl⟩
                    obtain ⟨V3, hV3⟩ : ∃ V, w2.alloc (.cells (readC l .nilFunc .nilFunc sub tm most (.pointer (some ⟨j, 0, none⟩))) 152) = V := ⟨_, rfl⟩
                    obtain ⟨b3, r3, s3⟩ := at_new hV3
                    rw [hBn] at r3 s3 b3
                    have t2 := b2.size
                    have f1 : V3.cell? ⟨B, 1, none⟩ = some .nilFunc := cells_at r3 rfl
                    have f2 : V3.cell? ⟨B, 2, none⟩ = some .nilFunc := cells_at r3 rfl
                    have y1 := cells_fr r3 (o := 1) (by simp [readC])
                    have y2 := cells_fr r3 (o := 2) (by simp [readC])
                    obtain ⟨V5, hV5⟩ : ∃ V, (V3.setCell ⟨B, 1, none⟩ (.func (.func 67) #[.pointer (some ⟨B, 0, none⟩)] #[])).setCell ⟨B, 2, none⟩ (.func (.func 68) #[.pointer (some ⟨B, 0, none⟩)] #[]) = V := ⟨_, rfl⟩
                    have kB5 : V5.heap[B]? = some (.cells (readC l (.func (.func 67) #[.pointer (some ⟨B, 0, none⟩)] #[]) (.func (.func 68) #[.pointer (some ⟨B, 0, none⟩)] #[]) sub tm most (.pointer (some ⟨j, 0, none⟩))) 152 (0, 0)) := (by rw [← hV5]; simpa [readC] using set7 (set7 r3 1 (.func (.func 67) #[.pointer (some ⟨B, 0, none⟩)] #[])) 2 (.func (.func 68) #[.pointer (some ⟨B, 0, none⟩)] #[]))
                    have B3 : Below X w V3 := H.out.1.trans ((b2.mono (by omega)).trans (b3.mono (by omega)))
                    have B5 : Below X w V5 := hV5 ▸ below_set (below_set B3 (by omega)) (by omega)
                    have cS := rstart_any (w := V5) hl kB5 ⟨rfl, ⟨rfl, rfl, rfl, rfl, rfl, rfl, rfl⟩, rfl, rfl, rfl, rfl, rfl, rfl⟩ hs htb
                    have hBX : X < B := (by omega)
                    have HV := Lib.hid (And.intro B5 (And.intro cS (Array.getElem?_eq_some_iff.1 kB5).1))
                    unfold readC at hV3
                    clear hB2 b2 b3 r3 kB5 B3 B5 cS s3 t2)
    all_goals go_wp2_with (go_at_call 69; refine HV.out.2.1.mono ?_; rintro e w6 ⟨rfl, hT⟩; have H6 := Lib.hid hT; clear hT)
    all_goals go_ret
    all_goals refine ⟨B, rfl, ?_, by omega⟩
    all_goals try rw [hX]
    all_goals exact HV.out.1.trans ((H6.out.toK.mono (K' := fun k => X ≤ k) (fun k _ hk => by omega)).toBelow (fun k hk => hk) (by have := HV.out.2.2; omega))
  · go_enter Tryz.func33, Tryz.ntmps33
    go_wp2_with fail
    go_region_with (go_at_call 66
                    refine (jnew_any _).mono ?_
                    rintro e w2 ⟨j, rfl, hB2⟩
                    have b2 : Below V1.heap.size V1 w2 := (Below.refl V1.heap.size V1).drew.trans hB2
                    obtain ⟨n0, n1, n2, n3, n4, n5, n6⟩ := blk7 ((b2.block X (by omega)).trans H.out.2)
                    obtain ⟨B, hBn⟩ : ∃ B, w2.heap.size = B := ⟨_, rfl⟩
                    obtain ⟨V3, hV3⟩ : ∃ V, w2.alloc (.cells (readC l .nilFunc .nilFunc sub 65536 most (.pointer (some ⟨j, 0, none⟩))) 152) = V := ⟨_, rfl⟩
                    obtain ⟨b3, r3, s3⟩ := at_new hV3
                    rw [hBn] at r3 s3 b3
                    have t2 := b2.size
                    have f1 : V3.cell? ⟨B, 1, none⟩ = some .nilFunc := cells_at r3 rfl
                    have f2 : V3.cell? ⟨B, 2, none⟩ = some .nilFunc := cells_at r3 rfl
                    have y1 := cells_fr r3 (o := 1) (by simp [readC])
                    have y2 := cells_fr r3 (o := 2) (by simp [readC])
                    obtain ⟨V5, hV5⟩ : ∃ V, (V3.setCell ⟨B, 1, none⟩ (.func (.func 67) #[.pointer (some ⟨B, 0, none⟩)] #[])).setCell ⟨B, 2, none⟩ (.func (.func 68) #[.pointer (some ⟨B, 0, none⟩)] #[]) = V := ⟨_, rfl⟩
                    have kB5 : V5.heap[B]? = some (.cells (readC l (.func (.func 67) #[.pointer (some ⟨B, 0, none⟩)] #[]) (.func (.func 68) #[.pointer (some ⟨B, 0, none⟩)] #[]) sub 65536 most (.pointer (some ⟨j, 0, none⟩))) 152 (0, 0)) := (by rw [← hV5]; simpa [readC] using set7 (set7 r3 1 (.func (.func 67) #[.pointer (some ⟨B, 0, none⟩)] #[])) 2 (.func (.func 68) #[.pointer (some ⟨B, 0, none⟩)] #[]))
                    have B3 : Below X w V3 := H.out.1.trans ((b2.mono (by omega)).trans (b3.mono (by omega)))
                    have B5 : Below X w V5 := hV5 ▸ below_set (below_set B3 (by omega)) (by omega)
                    have cS := rstart_any (w := V5) hl kB5 ⟨rfl, ⟨rfl, rfl, rfl, rfl, rfl, rfl, rfl⟩, rfl, rfl, rfl, rfl, rfl, rfl⟩ hs htb
                    have hBX : X < B := (by omega)
                    have HV := Lib.hid (And.intro B5 (And.intro cS (Array.getElem?_eq_some_iff.1 kB5).1))
                    unfold readC at hV3
                    clear hB2 b2 b3 r3 kB5 B3 B5 cS s3 t2)
    all_goals go_wp2_with (go_at_call 69; refine HV.out.2.1.mono ?_; rintro e w6 ⟨rfl, hT⟩; have H6 := Lib.hid hT; clear hT)
    all_goals go_ret
    all_goals refine ⟨B, rfl, ?_, by omega⟩
    all_goals try rw [hX]
    all_goals exact HV.out.1.trans ((H6.out.toK.mono (K' := fun k => X ≤ k) (fun k _ hk => by omega)).toBelow (fun k hk => hk) (by have := HV.out.2.2; omega))
end Go.Proofs.YtpbhfckefmboaaaGreatDoor.Ba
