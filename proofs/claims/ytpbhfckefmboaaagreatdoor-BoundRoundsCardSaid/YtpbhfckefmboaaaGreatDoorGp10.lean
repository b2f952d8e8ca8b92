/- ScJ, StB, StC, StD, StE: in one text. -/
import Derived.Test.YtpbhfckefmboaaaGreatDoorGp09
import Derived.Test.YtpbhfckefmboaaaGreatDoorGp06
import Derived.Test.YtpbhfckefmboaaaGreatDoorGp04
import Derived.Deep.RegionHeld3
import Derived.Test.YtpbhfckefmboaaaGreatDoorGp01
set_option linter.unusedVariables false
set_option linter.unusedSimpArgs false
set_option linter.unusedSectionVars false
namespace Go.Proofs.YtpbhfckefmboaaaGreatDoor.Ba
open Go Go.RowKit Go.Lib Go.Base
theorem RobS.below {n0 S a I P Wb nw k : Nat} {w0 w w' : World} {L : List Sto} (h : RobS n0 S a I P Wb nw w0 k L w) (hb : Below w.heap.size w w') : RobS n0 S a I P Wb nw w0 k L w' := by
  obtain ⟨bl, ⟨n1, n2⟩, ⟨ws, c, fb⟩, ⟨tr, trs, hw, ho, hev, hhd⟩, ac, mi, pI, wI, iS, sa⟩ := h
  have pl := fb.pl
  refine ⟨bl.trans (hb.mono (by omega)), ⟨n1, n2⟩, ⟨ws, c, fb.below hb⟩, ⟨tr, trs, hw.below hb, own_at ho fun g hg => hb.block g (ho.lt g hg).2, fun g hg => (hev g hg).kept (hb.block g (ho.lt g hg).2), hhd⟩, (hb.block a (Array.getElem?_eq_some_iff.1 ac).1).trans ac, mi.below hb, pI, wI, iS, sa⟩
/-- a store that may be -/
def StoOk (nw : Nat) (x : Sto) : Prop := chkM (8 * nw) 2 x.1 x.2.1 0 = 0 ∧ (0 ≤ x.2.1 ∧ x.2.1 ≤ 8) ∧ (0 ≤ x.1 ∧ x.1 / 8 < (nw : Int)) ∧ x.1 ≤ 1000000
/-- the actor's next access -/
theorem anext_rob {n0 S a I P Wb nw k : Nat} {w0 w : World} {L : List Sto} (h : RobS n0 S a I P Wb nw w0 k L w) : ∃ kk p n v : Int, Calls Tryz.prog 61 #[.pointer (some ⟨a, 0, none⟩)] w fun e w' => e = .returned (.tuple #[accM kk p n v 0 none 0 0, .bool (match L with | [] => false | _ => true)]) ∧ Below w.heap.size w w' := by
  cases L with
  | nil => exact ⟨_, _, _, _, anext_init h.ac fun V hV => next_end (InitS.below h.mi hV)⟩
  | cons x L => exact ⟨_, _, _, _, anext_init h.ac fun V hV => next_init (h.mi.below hV)⟩
set_option maxRecDepth 100000 in
set_option maxHeartbeats 3200000 in
theorem robin_init {n0 S a I P Wb nw : Nat} {w0 w : World} {L : List Sto} (h : RobS n0 S a I P Wb nw w0 0 L w) (hL : ∀ x ∈ L, StoOk nw x) (hlen : L.length ≤ 100) :
    Calls Tryz.prog 31 #[.pointer (some ⟨S, 0, none⟩), .int .i64 4096] w fun e w' => (∃ v, e = .returned v) ∧ ∃ k, RobS n0 S a I P Wb nw w0 k [] w' := by
  have H := Lib.hid h
  clear h
  go_enter Tryz.func31, Tryz.ntmps31
  go_wp2_with fail
  go_loopw [5, 6] (fun nn gg wr => ∃ (k : Nat) (b : Bool) (L' : List Sto), nn = .int .i64 (k : Int) ∧ gg = .bool b ∧ k + L'.length = L.length ∧ Hid (b = false → L' = []) ∧ Hid (∀ x ∈ L', StoOk nw x) ∧ Hid (RobS n0 S a I P Wb nw w0 k L' wr)) (fun nn gg _ => ((1000 : Int) - intOf nn).toNat * 2 + (match gg with | .bool true => 1 | _ => 0))
  case atStart => exact ⟨0, true, L, rfl, rfl, by omega, Lib.hid (by simp), Lib.hid hL, H⟩
  case round =>
    obtain ⟨k, b, L', rfl, rfl, hkl, hb, HL, HR⟩ := hrel
    cases b with
    | false =>
      have hL' : L' = [] := hb.out rfl
      subst hL'
      clear hb
      go_wp2
      go_ret
      exact ⟨⟨_, rfl⟩, k, HR.out⟩
    | true =>
      obtain ⟨tr, trs, hw, -⟩ := HR.out.wl
      obtain ⟨g, cap, c0, c1, c2⟩ := hw.row (i := 0) (a := a) rfl
      clear hw hb
      go_wp2_with fail
      go_loopw [5, 6, 19] (fun nn gg ii wr => (ii = .int .i64 0 ∧ nn = .int .i64 (k : Int) ∧ gg = .bool false ∧ Hid (RobS n0 S a I P Wb nw w0 k L' wr ∧ wr.cell? ⟨g, 0, none⟩ = some (.pointer (some ⟨a, 0, none⟩)))) ∨ (ii = .int .i64 1 ∧ ∃ (k2 : Nat) (b2 : Bool) (L2 : List Sto), nn = .int .i64 (k2 : Int) ∧ gg = .bool b2 ∧ k2 + L2.length = L.length ∧ Hid (b2 = false → L2 = []) ∧ Hid (∀ x ∈ L2, StoOk nw x) ∧ Hid (RobS n0 S a I P Wb nw w0 k2 L2 wr) ∧ k2 = (match b2 with | true => k + 1 | false => k))) (fun _ _ ii _ => ((2 : Int) - intOf ii).toNat)
      case atStart => exact .inl ⟨rfl, rfl, rfl, Lib.hid ⟨HR.out, c2⟩⟩
      case round =>
        rcases hrel with ⟨rfl, rfl, rfl, HQ⟩ | ⟨rfl, k2, b2, L2, rfl, rfl, hk2, hb2, HL2, HQ, hk3⟩
        · clear c0 c1 c2 HR
          have cc := HQ.out.2
          obtain ⟨kk, p, n, v, cN⟩ := anext_rob HQ.out.1
          unfold accM at cN
          have qk : ¬ (k : Int) ≥ 4096 := by omega
          have qk2 : IntKind.i64.wrap ((k : Int) + 1) = (k : Int) + 1 := wrap_small _ (by omega) (by omega)
          cases L' with
          | nil =>
            dsimp only at cN
            go_wp2_with (go_at_call 61
                         refine cN.mono ?_
                         clear cN
                         rintro e w1 ⟨rfl, hB⟩
                         obtain ⟨X, hX⟩ : ∃ X, w1.heap.size = X := ⟨_, rfl⟩
                         obtain ⟨V1, hV1⟩ : ∃ V, w1.alloc (.cells #[.int .i64 0, .int .i64 0, .int .i64 0, .int .u64 0, .int .u64 0, .slice none 0 0] 40) = V := ⟨_, rfl⟩
                         obtain ⟨b1, r1, s1⟩ := at_new hV1
                         rw [hX] at r1
                         obtain ⟨d0, d1, d2, d3, d4, d5⟩ := blk6 r1
                         have y0 := froz6 r1 0
                         have y1 := froz6 r1 1
                         have y2 := froz6 r1 2
                         have y3 := froz6 r1 3
                         have y4 := froz6 r1 4
                         have y5 := froz6 r1 5
                         obtain ⟨u1, u2⟩ := putA_new (k := kk) (p := p) (n := n) (v := v) (u := 0) (s := .slice none 0 0) hX b1 r1
                         have H1 := Lib.hid (HQ.out.1.below (hB.trans (u1.mono hB.size)))
                         clear hB b1 r1 u1 u2 s1)
            exact ⟨.inr ⟨rfl, k, false, [], rfl, rfl, hkl, Lib.hid (fun _ => rfl), Lib.hid (by simp), H1, rfl⟩, by simp [intOf]⟩
          | cons x L2 =>
            dsimp only at cN
            go_wp2_with (first
                      | (go_at_call 61
                         refine cN.mono ?_
                         clear cN
                         rintro e w1 ⟨rfl, hB⟩
                         obtain ⟨X, hX⟩ : ∃ X, w1.heap.size = X := ⟨_, rfl⟩
                         obtain ⟨V1, hV1⟩ : ∃ V, w1.alloc (.cells #[.int .i64 0, .int .i64 0, .int .i64 0, .int .u64 0, .int .u64 0, .slice none 0 0] 40) = V := ⟨_, rfl⟩
                         obtain ⟨b1, r1, s1⟩ := at_new hV1
                         rw [hX] at r1
                         obtain ⟨d0, d1, d2, d3, d4, d5⟩ := blk6 r1
                         have y0 := froz6 r1 0
                         have y1 := froz6 r1 1
                         have y2 := froz6 r1 2
                         have y3 := froz6 r1 3
                         have y4 := froz6 r1 4
                         have y5 := froz6 r1 5
                         obtain ⟨u1, u2⟩ := putA_new (k := kk) (p := p) (n := n) (v := v) (u := 0) (s := .slice none 0 0) hX b1 r1
                         have H1 := Lib.hid (HQ.out.1.below (hB.trans (u1.mono hB.size)))
                         have hal : a < w1.heap.size := Nat.lt_of_lt_of_le (Array.getElem?_eq_some_iff.1 HQ.out.1.ac).1 hB.size
                         have naX : ¬ a = X := by omega
                         have nXa : ¬ X = a := by omega
                         have ca : V1.cell? ⟨a, 1, none⟩ = some (.bool false) := by
                           have := (b1.block a hal).trans ((hB.block a (Array.getElem?_eq_some_iff.1 HQ.out.1.ac).1).trans HQ.out.1.ac)
                           simp [World.cell?, this]
                         have cP := pick_init H1.out (by omega) (HL.out x (by simp)).1 (HL.out x (by simp)).2.1 (HL.out x (by simp)).2.2.1 (HL.out x (by simp)).2.2.2
                         have HP := Lib.hid cP
                         clear cP hal hB b1 r1 u1 u2 s1)
                      | (go_at_call 36
                         refine HP.out.mono ?_
                         rintro e w3 ⟨⟨v3, rfl⟩, hR3⟩
                         have H3 := Lib.hid hR3
                         clear hR3))
            exact ⟨.inr ⟨rfl, k + 1, true, L2, by simp, rfl, by simp at hkl; omega, Lib.hid (by simp), Lib.hid fun y hy => HL.out y (by simp [hy]), H3, rfl⟩, by simp [intOf]⟩
        · clear c0 c1 c2
          go_wp2_with fail
          cases b2 with
          | false => exact ⟨⟨k2, false, L2, rfl, rfl, hk2, hb2, HL2, HQ⟩, by simp [intOf] at hk3 ⊢; omega⟩
          | true => exact ⟨⟨k2, true, L2, rfl, rfl, hk2, hb2, HL2, HQ⟩, by simp [intOf] at hk3 ⊢; omega⟩
end Go.Proofs.YtpbhfckefmboaaaGreatDoor.Ba
namespace Go.Proofs.YtpbhfckefmboaaaGreatDoor.Ba
open Go Go.RowKit Go.Lib Go.Base
/-- a log's cells, from one on -/
def LogAt (C : Array Value) (o : Nat) (l : Lg) : Prop := C[o]? = some (.int .i64 l.base) ∧ C[o + 1]? = some (.int .i64 l.term) ∧ C[o + 2]? = some (.int .i64 l.mtu) ∧ C[o + 3]? = some (.int .i64 l.subs) ∧ C[o + 4]? = some (.int .i32 l.ini) ∧ C[o + 5]? = some (.int .i32 l.ses) ∧ C[o + 6]? = some (.int .i32 l.str)
theorem LogAt.of {C C' : Array Value} {o : Nat} {l : Lg} (h : LogAt C o l) (hc : ∀ j, o ≤ j → C'[j]? = C[j]?) : LogAt C' o l := by
  obtain ⟨g0, g1, g2, g3, g4, g5, g6⟩ := h
  exact ⟨(hc _ (by omega)).trans g0, (hc _ (by omega)).trans g1, (hc _ (by omega)).trans g2, (hc _ (by omega)).trans g3, (hc _ (by omega)).trans g4, (hc _ (by omega)).trans g5, (hc _ (by omega)).trans g6⟩
theorem LogAt.set {C : Array Value} {o k : Nat} {l : Lg} {v : Value} (h : LogAt C o l) (hk : o + 7 ≤ k) : LogAt (C.setIfInBounds k v) o l := by
  obtain ⟨g0, g1, g2, g3, g4, g5, g6⟩ := h
  have e : ∀ j, j < k → (C.setIfInBounds k v)[j]? = C[j]? := fun j hj => Array.getElem?_setIfInBounds_ne (by omega)
  exact ⟨(e _ (by omega)).trans g0, (e _ (by omega)).trans g1, (e _ (by omega)).trans g2, (e _ (by omega)).trans g3, (e _ (by omega)).trans g4, (e _ (by omega)).trans g5, (e _ (by omega)).trans g6⟩
theorem wsS {W : World} {B X : Nat} {l : Lg} {C : Array Value} {t tx ti : TypeId} {v u : Value} (hB : W.heap[B]? = some (.cells C t (0, 0))) (hg : LogAt C 7 l) (hX : W.heap[X]? = some (.cells #[v] tx)) (hI : W.heap[X + 1]? = some (.cells #[u] ti)) : W.cell? ⟨X, 0, none⟩ = some v ∧ W.cell? ⟨X + 1, 0, none⟩ = some u ∧ W.cell? ⟨B, 7, none⟩ = some (.int .i64 l.base) ∧ W.cell? ⟨B, 8, none⟩ = some (.int .i64 l.term) ∧ W.cell? ⟨B, 9, none⟩ = some (.int .i64 l.mtu) ∧ W.cell? ⟨B, 10, none⟩ = some (.int .i64 l.subs) ∧ W.cell? ⟨B, 11, none⟩ = some (.int .i32 l.ini) ∧ W.cell? ⟨B, 12, none⟩ = some (.int .i32 l.ses) ∧ W.cell? ⟨B, 13, none⟩ = some (.int .i32 l.str) := by
  obtain ⟨g0, g1, g2, g3, g4, g5, g6⟩ := hg
  exact ⟨by simp [World.cell?, hX], by simp [World.cell?, hI], cells_at hB g0, cells_at hB g1, cells_at hB g2, cells_at hB g3, cells_at hB g4, cells_at hB g5, cells_at hB g6⟩
set_option maxHeartbeats 3200000 in
set_option maxRecDepth 100000 in
theorem wsubs_any {w : World} {B : Nat} {l : Lg} (hl : l.ok) {C : Array Value} {t : TypeId} (h : w.heap[B]? = some (.cells C t (0, 0))) (hC : 14 ≤ C.size) (hg : LogAt C 7 l) :
    Calls Tryz.prog 101 #[.pointer (some ⟨B, 0, none⟩), .int .i64 0] w fun e w' => e = .returned (.tuple #[]) ∧ Turn2 B B w w' := by
  have hb := hl.bounds
  obtain ⟨g0, g1, g2, g3, g4, g5, g6⟩ := id hg
  obtain ⟨X, hX⟩ : ∃ X, w.heap.size = X := ⟨_, rfl⟩
  obtain ⟨V1, hV1⟩ : ∃ V, w.alloc (.cells #[.pointer (some ⟨B, 0, none⟩)] 87) = V := ⟨_, rfl⟩
  obtain ⟨V2, hV2⟩ : ∃ V, V1.alloc (.cells #[.int .i64 0] 3) = V := ⟨_, rfl⟩
  obtain ⟨b1, r1, s1⟩ := at_new hV1
  obtain ⟨b2, r2, s2⟩ := at_new hV2
  rw [hX] at r1 s1 b1
  rw [s1] at r2 s2 b2
  have hBl : B < X := hX ▸ (Array.getElem?_eq_some_iff.1 h).1
  have r12 := (b2.block X (by omega)).trans r1
  have hB2 := (b2.block B (by omega)).trans ((b1.block B hBl).trans h)
  have p0 : V2.cell? ⟨X, 0, none⟩ = some (.pointer (some ⟨B, 0, none⟩)) := by simp [World.cell?, r12]
  have p1 : V2.cell? ⟨X + 1, 0, none⟩ = some (.int .i64 0) := by simp [World.cell?, r2]
  have c7 := cells_at hB2 g0
  have c8 := cells_at hB2 g1
  have c9 := cells_at hB2 g2
  have c10 := cells_at hB2 g3
  have c11 := cells_at hB2 g4
  have c12 := cells_at hB2 g5
  have c13 := cells_at hB2 g6
  have cS := fun W => subAt_any l hl 0 (by omega) (by omega) W
  unfold Lg.val at cS
  have n0 : ¬ (0 : Int) = l.subs := by omega
  have n1 : ((0 : Int) == l.subs) = false := by simp; omega
  have B2 : Below X w V2 := b1.trans (b2.mono (by omega))
  have H := Lib.hid (And.intro cS (And.intro B2 (And.intro hB2 (And.intro (show 7 ≤ C.size by omega) (And.intro r12 r2)))))
  clear g0 g1 g2 g3 g4 g5 g6 h b1 b2 r1 r2 r12 hB2 cS B2
  go_enter Tryz.func101, Tryz.ntmps101
  go_wp2_with fail
  go_quiet (fail)
  go_wp2_with fail
  have HS2 := And.intro p0 (And.intro p1 (And.intro c7 (And.intro c8 (And.intro c9 (And.intro c10 (And.intro c11 (And.intro c12 c13)))))))
  have hlg := Lib.hid hg
  clear p0 p1 c7 c8 c9 c10 c11 c12 c13 hg
  go_region_held3 (fun W => W.cell? ⟨X, 0, none⟩ = some (.pointer (some ⟨B, 0, none⟩)) ∧ W.cell? ⟨X + 1, 0, none⟩ = some (.int .i64 0) ∧ W.cell? ⟨B, 7, none⟩ = some (.int .i64 l.base) ∧ W.cell? ⟨B, 8, none⟩ = some (.int .i64 l.term) ∧ W.cell? ⟨B, 9, none⟩ = some (.int .i64 l.mtu) ∧ W.cell? ⟨B, 10, none⟩ = some (.int .i64 l.subs) ∧ W.cell? ⟨B, 11, none⟩ = some (.int .i32 l.ini) ∧ W.cell? ⟨B, 12, none⟩ = some (.int .i32 l.ses) ∧ W.cell? ⟨B, 13, none⟩ = some (.int .i32 l.str))
    (first | exact HS4.out | exact HS3.out | exact HS2)
    (first
    | (go_at_call 59
       refine (H.out.1 _).mono ?_
       rintro e w3 ⟨rfl, hB3⟩
       have b3 : Below V2.heap.size V2 w3 := (below_drewN (Below.refl V2.heap.size V2) _).trans hB3
       have r3 := (b3.block X (by omega)).trans H.out.2.2.2.2.1
       have q3 := (b3.block (X + 1) (by omega)).trans H.out.2.2.2.2.2
       have H3 := Lib.hid (And.intro b3 (And.intro ((b3.block B (by omega)).trans H.out.2.2.1) (And.intro r3 q3)))
       have HS3 := Lib.hid (wsS H3.out.2.1 hlg.out H3.out.2.2.1 H3.out.2.2.2)
       clear b3 r3 q3 hB3)
    | (go_at_call 117
       refine (cont_load H3.out.2.1 H.out.2.2.2.1).mono ?_
       rintro e w4 ⟨rfl, hT, C', h1, h2, h3, h4⟩
       have H4 := Lib.hid hT
       have HS4 := Lib.hid (wsS h1 (LogAt.of hlg.out fun j hj => h3 j (by omega)) ((hT.block X (by have := H3.out.1.size; omega) (by omega) (by omega)).trans H3.out.2.2.1) ((hT.block (X + 1) (by have := H3.out.1.size; omega) (by omega) (by omega)).trans H3.out.2.2.2))
       clear hT h1 h2 h3 h4))
  all_goals go_end0
  all_goals exact ⟨rfl, (Turn2.of ((hX.symm ▸ H.out.2.1).trans (H3.out.1.mono (hX.symm ▸ H.out.2.1.size)))).trans H4.out⟩
set_option maxHeartbeats 3200000 in
set_option maxRecDepth 100000 in
theorem wlook_any {w : World} {B : Nat} {l : Lg} (hl : l.ok) {C : Array Value} {t : TypeId} {times : Int} (h : w.heap[B]? = some (.cells C t (0, 0))) (hC : 16 ≤ C.size) (hg : LogAt C 7 l) (ht : C[15]? = some (.int .i64 times)) (htb : times ≤ 65536) :
    Calls Tryz.prog 70 #[.pointer (some ⟨B, 0, none⟩)] w fun e w' => e = .returned (.tuple #[]) ∧ Turn2 B B w w' := by
  have c15 := cells_at h ht
  have z15 := cells_fr h (o := 15) (by omega)
  have h2 := set7 h 15 (.int .i64 (times - 1))
  have cS := fun (V : World) (hV : V = w.setCell ⟨B, 15, none⟩ (.int .i64 (times - 1))) => wsubs_any (w := V) hl (hV ▸ h2) (by simp; omega) (hg.set (by omega))
  by_cases ht1 : times < 1
  · go_enter Tryz.func70, Tryz.ntmps70
    go_wp2
    exact bodyPost_ret (v := .tuple #[]) (by simp [results, Tryz.results70, go_sem]) rfl ⟨rfl, .of (Below.refl _ _)⟩
  · have q1 : IntKind.i64.wrap (times - 1) = times - 1 := wrap_small _ (by omega) (by omega)
    have HS := Lib.hid (cS _ rfl)
    clear h2 cS hg ht
    go_enter Tryz.func70, Tryz.ntmps70
    go_wp2_with (go_at_call 101; refine HS.out.mono ?_; rintro e w1 ⟨rfl, hT⟩; have H1 := Lib.hid hT; clear hT)
    go_end0
    exact ⟨rfl, Turn2.setP.trans H1.out⟩
end Go.Proofs.YtpbhfckefmboaaaGreatDoor.Ba
namespace Go.Proofs.YtpbhfckefmboaaaGreatDoor.Ba
open Go Go.RowKit Go.Lib Go.Base
/-- a watcher's cells -/
def watC (l : Lg) (timeout times : Int) : Array Value := #[.int .i64 0, .int .i64 0, .int .i64 0, .int .u64 0, .int .u64 0, .slice none 0 0, .nilFunc, .int .i64 l.base, .int .i64 l.term, .int .i64 l.mtu, .int .i64 l.subs, .int .i32 l.ini, .int .i32 l.ses, .int .i32 l.str, .int .i64 timeout, .int .i64 times, .int .i64 0, .int .i64 0, .int .i64 0, .bool false, .int .i64 0, .pointer none, .int .i64 0]
set_option maxHeartbeats 3200000 in
set_option maxRecDepth 100000 in
theorem watch_any {w : World} {l : Lg} (hl : l.ok) {timeout looks : Int} : 
    Calls Tryz.prog 34 #[l.val, .int .i64 timeout, .int .i64 looks] w fun e w' => ∃ B, e = .returned (.pointer (some ⟨B, 0, none⟩)) ∧ Below w.heap.size w w' ∧ w.heap.size ≤ B := by
  have hb := hl.bounds
  have cC := fun W => check_ok l hl W
  unfold Lg.val at cC ⊢
  obtain ⟨X, hX⟩ : ∃ X, w.heap.size = X := ⟨_, rfl⟩
  obtain ⟨tm, htb, htm⟩ : ∃ tm : Int, tm ≤ 65536 ∧ ((looks ≤ 65536 ∧ tm = looks) ∨ (¬ looks ≤ 65536 ∧ tm = 65536)) := by
    by_cases h : looks ≤ 65536
    · exact ⟨looks, h, .inl ⟨h, rfl⟩⟩
    · exact ⟨65536, by omega, .inr ⟨h, rfl⟩⟩
  obtain ⟨V1, hV1⟩ : ∃ V, w.alloc (.cells #[.int .i64 l.base, .int .i64 l.term, .int .i64 l.mtu, .int .i64 l.subs, .int .i32 l.ini, .int .i32 l.ses, .int .i32 l.str] 23) = V := ⟨_, rfl⟩
  obtain ⟨V2, hV2⟩ : ∃ V, V1.alloc (.cells (watC l timeout tm) 155) = V := ⟨_, rfl⟩
  obtain ⟨b1, r1, s1⟩ := at_new hV1
  obtain ⟨b2, r2, s2⟩ := at_new hV2
  rw [hX] at r1 s1 b1
  rw [s1] at r2 s2 b2
  have r12 := (b2.block X (by omega)).trans r1
  obtain ⟨m0, m1, m2, m3, m4, m5, m6⟩ := blk7 r1
  obtain ⟨n0, n1, n2, n3, n4, n5, n6⟩ := blk7 r12
  have H := Lib.hid (And.intro (show Below X w V2 from b1.trans (b2.mono (by omega))) r2)
  unfold watC at hV2
  clear b1 b2 r1 r2 r12
  rcases htm with ⟨hlk, rfl⟩ | ⟨hlk, rfl⟩
  all_goals (
    go_enter Tryz.func34, Tryz.ntmps34
    go_wp2_with (first
      | (go_at_call 49
         refine (cC _).mono ?_
         rintro e w3 ⟨rfl, hB3⟩
         have H3 := Lib.hid (And.intro hB3 ((hB3.block (X + 1) (by omega)).trans H.out.2))
         clear hB3)
      | (go_at_call 70
         refine (wlook_any hl H3.out.2 (by simp [watC]) ⟨rfl, rfl, rfl, rfl, rfl, rfl, rfl⟩ rfl htb).mono ?_
         rintro e w4 ⟨rfl, hT⟩
         have H4 := Lib.hid hT
         clear hT))
    go_ret
    have h4 := H4.out.toK.mono (K' := fun k => X ≤ k) (fun k _ hk => by omega)
    refine ⟨X + 1, rfl, ?_, by omega⟩
    rw [hX]
    exact (H.out.1.trans (H3.out.1.mono (by omega))).trans (h4.toBelow (fun k hk => hk) (by have := H3.out.1.size; omega)))
end Go.Proofs.YtpbhfckefmboaaaGreatDoor.Ba
namespace Go.Proofs.YtpbhfckefmboaaaGreatDoor.Ba
open Go Go.RowKit Go.Lib Go.Base
set_option maxHeartbeats 3200000 in
set_option maxRecDepth 100000 in
theorem ksubs_any {w : World} {B : Nat} {l : Lg} (hl : l.ok) {C : Array Value} {t : TypeId} (h : w.heap[B]? = some (.cells C t (0, 0))) (hC : 14 ≤ C.size) (hg : LogAt C 7 l) :
    Calls Tryz.prog 127 #[.pointer (some ⟨B, 0, none⟩), .int .i64 0] w fun e w' => e = .returned (.tuple #[]) ∧ Turn2 B B w w' ∧ ∃ C', w'.heap[B]? = some (.cells C' t (0, 0)) ∧ WantC C' := by
  have hb := hl.bounds
  obtain ⟨g0, g1, g2, g3, g4, g5, g6⟩ := id hg
  obtain ⟨X, hX⟩ : ∃ X, w.heap.size = X := ⟨_, rfl⟩
  obtain ⟨V1, hV1⟩ : ∃ V, w.alloc (.cells #[.pointer (some ⟨B, 0, none⟩)] 156) = V := ⟨_, rfl⟩
  obtain ⟨V2, hV2⟩ : ∃ V, V1.alloc (.cells #[.int .i64 0] 3) = V := ⟨_, rfl⟩
  obtain ⟨b1, r1, s1⟩ := at_new hV1
  obtain ⟨b2, r2, s2⟩ := at_new hV2
  rw [hX] at r1 s1 b1
  rw [s1] at r2 s2 b2
  have hBl : B < X := hX ▸ (Array.getElem?_eq_some_iff.1 h).1
  have r12 := (b2.block X (by omega)).trans r1
  have hB2 := (b2.block B (by omega)).trans ((b1.block B hBl).trans h)
  have p0 : V2.cell? ⟨X, 0, none⟩ = some (.pointer (some ⟨B, 0, none⟩)) := by simp [World.cell?, r12]
  have p1 : V2.cell? ⟨X + 1, 0, none⟩ = some (.int .i64 0) := by simp [World.cell?, r2]
  have c7 := cells_at hB2 g0
  have c8 := cells_at hB2 g1
  have c9 := cells_at hB2 g2
  have c10 := cells_at hB2 g3
  have c11 := cells_at hB2 g4
  have c12 := cells_at hB2 g5
  have c13 := cells_at hB2 g6
  have cS := fun W => subAt_any l hl 0 (by omega) (by omega) W
  unfold Lg.val at cS
  have n0 : ¬ (0 : Int) = l.subs := by omega
  have n1 : ((0 : Int) == l.subs) = false := by simp; omega
  have B2 : Below X w V2 := b1.trans (b2.mono (by omega))
  have H := Lib.hid (And.intro cS (And.intro B2 (And.intro hB2 (And.intro (show 7 ≤ C.size by omega) (And.intro r12 r2)))))
  clear g0 g1 g2 g3 g4 g5 g6 h b1 b2 r1 r2 r12 hB2 cS B2
  go_enter Tryz.func127, Tryz.ntmps127
  go_wp2_with fail
  go_quiet (fail)
  go_wp2_with fail
  have HS2 := And.intro p0 (And.intro p1 (And.intro c7 (And.intro c8 (And.intro c9 (And.intro c10 (And.intro c11 (And.intro c12 c13)))))))
  have hlg := Lib.hid hg
  clear p0 p1 c7 c8 c9 c10 c11 c12 c13 hg
  go_region_held3 (fun W => W.cell? ⟨X, 0, none⟩ = some (.pointer (some ⟨B, 0, none⟩)) ∧ W.cell? ⟨X + 1, 0, none⟩ = some (.int .i64 0) ∧ W.cell? ⟨B, 7, none⟩ = some (.int .i64 l.base) ∧ W.cell? ⟨B, 8, none⟩ = some (.int .i64 l.term) ∧ W.cell? ⟨B, 9, none⟩ = some (.int .i64 l.mtu) ∧ W.cell? ⟨B, 10, none⟩ = some (.int .i64 l.subs) ∧ W.cell? ⟨B, 11, none⟩ = some (.int .i32 l.ini) ∧ W.cell? ⟨B, 12, none⟩ = some (.int .i32 l.ses) ∧ W.cell? ⟨B, 13, none⟩ = some (.int .i32 l.str))
    (first | exact HS4.out | exact HS3.out | exact HS2)
    (first
    | (go_at_call 59
       refine (H.out.1 _).mono ?_
       rintro e w3 ⟨rfl, hB3⟩
       have b3 : Below V2.heap.size V2 w3 := (below_drewN (Below.refl V2.heap.size V2) _).trans hB3
       have r3 := (b3.block X (by omega)).trans H.out.2.2.2.2.1
       have q3 := (b3.block (X + 1) (by omega)).trans H.out.2.2.2.2.2
       have H3 := Lib.hid (And.intro b3 (And.intro ((b3.block B (by omega)).trans H.out.2.2.1) (And.intro r3 q3)))
       have HS3 := Lib.hid (wsS H3.out.2.1 hlg.out H3.out.2.2.1 H3.out.2.2.2)
       clear b3 r3 q3 hB3)
    | (go_at_call 117
       refine (cont_load H3.out.2.1 H.out.2.2.2.1).mono ?_
       rintro e w4 ⟨rfl, hT, C', h1, h2, h3, h4⟩
       have H4 := Lib.hid (And.intro hT (And.intro h1 h4))
       have HS4 := Lib.hid (wsS h1 (LogAt.of hlg.out fun j hj => h3 j (by omega)) ((hT.block X (by have := H3.out.1.size; omega) (by omega) (by omega)).trans H3.out.2.2.1) ((hT.block (X + 1) (by have := H3.out.1.size; omega) (by omega) (by omega)).trans H3.out.2.2.2))
       clear hT h1 h2 h3 h4))
  all_goals go_end0
  all_goals exact ⟨rfl, (Turn2.of ((hX.symm ▸ H.out.2.1).trans (H3.out.1.mono (hX.symm ▸ H.out.2.1.size)))).trans H4.out.1, _, H4.out.2⟩
/-- a clean's cells -/
def cleC (l : Lg) : Array Value := #[.int .i64 0, .int .i64 0, .int .i64 0, .int .u64 0, .int .u64 0, .slice none 0 0, .nilFunc, .int .i64 l.base, .int .i64 l.term, .int .i64 l.mtu, .int .i64 l.subs, .int .i32 l.ini, .int .i32 l.ses, .int .i32 l.str, .int .i64 0, .int .i64 0, .int .i64 0, .int .i64 0, .int .i64 10]
set_option maxHeartbeats 3200000 in
set_option maxRecDepth 100000 in
theorem clean_any {w : World} {l : Lg} (hl : l.ok) :
    Calls Tryz.prog 102 #[l.val] w fun e w' => ∃ B C', e = .returned (.pointer (some ⟨B, 0, none⟩)) ∧ Below w.heap.size w w' ∧ w.heap.size ≤ B ∧ w'.heap[B]? = some (.cells C' 205 (0, 0)) ∧ WantC C' := by
  have cC := fun W => check_ok l hl W
  unfold Lg.val at cC ⊢
  obtain ⟨X, hX⟩ : ∃ X, w.heap.size = X := ⟨_, rfl⟩
  obtain ⟨V1, hV1⟩ : ∃ V, w.alloc (.cells #[.int .i64 l.base, .int .i64 l.term, .int .i64 l.mtu, .int .i64 l.subs, .int .i32 l.ini, .int .i32 l.ses, .int .i32 l.str] 23) = V := ⟨_, rfl⟩
  obtain ⟨V2, hV2⟩ : ∃ V, V1.alloc (.cells (cleC l) 205) = V := ⟨_, rfl⟩
  obtain ⟨b1, r1, s1⟩ := at_new hV1
  obtain ⟨b2, r2, s2⟩ := at_new hV2
  rw [hX] at r1 s1 b1
  rw [s1] at r2 s2 b2
  have r12 := (b2.block X (by omega)).trans r1
  obtain ⟨m0, m1, m2, m3, m4, m5, m6⟩ := blk7 r1
  obtain ⟨n0, n1, n2, n3, n4, n5, n6⟩ := blk7 r12
  have H := Lib.hid (And.intro (show Below X w V2 from b1.trans (b2.mono (by omega))) r2)
  unfold cleC at hV2
  clear b1 b2 r1 r2 r12
  go_enter Tryz.func102, Tryz.ntmps102
  go_wp2_with (first
    | (go_at_call 49
       refine (cC _).mono ?_
       rintro e w3 ⟨rfl, hB3⟩
       have H3 := Lib.hid (And.intro hB3 ((hB3.block (X + 1) (by omega)).trans H.out.2))
       clear hB3)
    | (go_at_call 127
       refine (ksubs_any hl H3.out.2 (by simp [cleC]) ⟨rfl, rfl, rfl, rfl, rfl, rfl, rfl⟩).mono ?_
       rintro e w4 ⟨rfl, hT, hW⟩
       have H4 := Lib.hid (And.intro hT hW)
       clear hT hW))
  go_ret
  have h4 := H4.out.1.toK.mono (K' := fun k => X ≤ k) (fun k _ hk => by omega)
  obtain ⟨C', h5, h6⟩ := H4.out.2
  refine ⟨X + 1, C', rfl, ?_, by omega, h5, h6⟩
  rw [hX]
  exact (H.out.1.trans (H3.out.1.mono (by omega))).trans (h4.toBelow (fun k hk => hk) (by have := H3.out.1.size; omega))
set_option maxHeartbeats 3200000 in
set_option maxRecDepth 100000 in
theorem knext_any {w : World} {I : Nat} {C : Array Value} (h : w.heap[I]? = some (.cells C 205 (0, 0))) (hW : WantC C) :
    Calls Tryz.prog 285 #[.pointer (some ⟨I, 0, none⟩)] w fun e w' => (∃ k p n v u : Int, ∃ (ba : Option Addr) (bn bc : Nat), e = .returned (.tuple #[accM k p n v u ba bn bc, .bool true])) ∧ Below w.heap.size w w' := by
  obtain ⟨X, hX⟩ : ∃ X, w.heap.size = X := ⟨_, rfl⟩
  obtain ⟨V, hV⟩ : ∃ V, w.alloc (.cells #[.int .i64 0, .int .i64 0, .int .i64 0, .int .u64 0, .int .u64 0, .slice none 0 0] 40) = V := ⟨_, rfl⟩
  obtain ⟨bV, rV, sV⟩ := at_new hV
  rw [hX] at rV
  have CN := Lib.hid (cnext_g ((bV.block I (Array.getElem?_eq_some_iff.1 h).1).trans h) hW)
  have HV := Lib.hid (And.intro bV rV)
  clear h bV rV hW
  go_enter Tryz.func285, Tryz.ntmps285
  go_wp2_with (fail)
  refine CN.out.mono ?_
  rintro e w1 ⟨⟨k, p, n, v, u, ba, bn, bc, rfl⟩, hB⟩
  unfold accM
  have rV := (hB.block X (Array.getElem?_eq_some_iff.1 HV.out.2).1).trans HV.out.2
  have b1 : Below w.heap.size w w1 := HV.out.1.trans (hB.mono HV.out.1.size)
  obtain ⟨d0, d1, d2, d3, d4, d5⟩ := blk6 rV
  have y0 := froz6 rV 0
  have y1 := froz6 rV 1
  have y2 := froz6 rV 2
  have y3 := froz6 rV 3
  have y4 := froz6 rV 4
  have y5 := froz6 rV 5
  obtain ⟨q1, q2⟩ := putA_new (k := k) (p := p) (n := n) (v := v) (u := u) (s := .slice ba bn bc) hX b1 rV
  obtain ⟨k0, k1, k2, k3, k4, k5⟩ := blk6 q2
  have HQ := Lib.hid q1
  have HK := Lib.hid (And.intro k0 (And.intro k1 (And.intro k2 (And.intro k3 (And.intro k4 k5)))))
  clear hB rV b1 q1 q2 k0 k1 k2 k3 k4 k5
  go_wp2
  obtain ⟨k0, k1, k2, k3, k4, k5⟩ := HK.out
  unfold putA at k0 k1 k2 k3 k4 k5
  refine bodyPost_ret (v := .tuple #[accM k p n v u ba bn bc, .bool true]) (by simp [results, Tryz.results285, go_sem, k0, k1, k2, k3, k4, k5, accM]) rfl ⟨⟨k, p, n, v, u, ba, bn, bc, rfl⟩, ?_⟩
  have hq := HQ.out
  unfold putA at hq
  rw [← hX]
  rw [← hX] at hq
  exact hq
end Go.Proofs.YtpbhfckefmboaaaGreatDoor.Ba
namespace Go.Proofs.YtpbhfckefmboaaaGreatDoor.Ba
open Go Go.RowKit Go.Lib Go.Base
theorem logCells {W : World} {B o : Nat} {l : Lg} {C : Array Value} {t : TypeId} (hB : W.heap[B]? = some (.cells C t (0, 0))) (hg : LogAt C o l) : W.cell? ⟨B, o, none⟩ = some (.int .i64 l.base) ∧ W.cell? ⟨B, o + 1, none⟩ = some (.int .i64 l.term) ∧ W.cell? ⟨B, o + 2, none⟩ = some (.int .i64 l.mtu) ∧ W.cell? ⟨B, o + 3, none⟩ = some (.int .i64 l.subs) ∧ W.cell? ⟨B, o + 4, none⟩ = some (.int .i32 l.ini) ∧ W.cell? ⟨B, o + 5, none⟩ = some (.int .i32 l.ses) ∧ W.cell? ⟨B, o + 6, none⟩ = some (.int .i32 l.str) := by
  obtain ⟨g0, g1, g2, g3, g4, g5, g6⟩ := hg
  exact ⟨cells_at hB g0, cells_at hB g1, cells_at hB g2, cells_at hB g3, cells_at hB g4, cells_at hB g5, cells_at hB g6⟩
set_option maxHeartbeats 3200000 in
set_option maxRecDepth 100000 in
theorem kmore_any {w : World} {B : Nat} {l : Lg} (hl : l.ok) {C : Array Value} {t : TypeId} {times : Int} (h : w.heap[B]? = some (.cells C t (0, 0))) (hC : C.size = 13) (hg : LogAt C 4 l) (ht : C[11]? = some (.int .i64 times)) (htb : times ≤ 65536) :
    Calls Tryz.prog 71 #[.pointer (some ⟨B, 0, none⟩)] w fun e w' => (e = .returned (.tuple #[.pointer none, .bool false]) ∧ w' = w) ∨ (∃ c C', e = .returned (.tuple #[.pointer (some ⟨c, 0, none⟩), .bool true]) ∧ Turn2 B B w w' ∧ w.heap.size ≤ c ∧ w'.heap[B]? = some (.cells (C.setIfInBounds 11 (.int .i64 (times - 1))) t (0, 0)) ∧ w'.heap[c]? = some (.cells C' 205 (0, 0)) ∧ WantC C') := by
  have c11 := cells_at h ht
  have z11 := cells_fr h (o := 11) (by omega)
  obtain ⟨g0, g1, g2, g3, g4, g5, g6⟩ := logCells h hg
  have hBl := (Array.getElem?_eq_some_iff.1 h).1
  by_cases ht1 : times < 1
  · go_enter Tryz.func71, Tryz.ntmps71
    go_wp2
    exact bodyPost_ret (v := .tuple #[.pointer none, .bool false]) (by simp [results, Tryz.results71, go_sem]) rfl (.inl ⟨rfl, rfl⟩)
  · have q1 : IntKind.i64.wrap (times - 1) = times - 1 := wrap_small _ (by omega) (by omega)
    have h2 := set7 h 11 (.int .i64 (times - 1))
    have cN := clean_any (w := w.setCell ⟨B, 11, none⟩ (.int .i64 (times - 1))) hl
    unfold Lg.val at cN
    have HS := Lib.hid (And.intro cN h2)
    clear h2 cN hg ht h
    go_enter Tryz.func71, Tryz.ntmps71
    go_wp2_with (go_at_call 102; refine HS.out.1.mono ?_; rintro e w1 ⟨c, C', rfl, hB, hc, hk, hw⟩; have H1 := Lib.hid (And.intro hB (And.intro hc (And.intro hk hw))); clear hB hc hk hw)
    refine bodyPost_ret (v := .tuple #[.pointer (some ⟨c, 0, none⟩), .bool true]) (by simp [results, Tryz.results71, go_sem]) rfl (.inr ⟨c, C', rfl, Turn2.setP.trans (.of H1.out.1), ?_, (H1.out.1.block B (by rw [set_size]; exact hBl)).trans HS.out.2, H1.out.2.2.1, H1.out.2.2.2⟩)
    have := H1.out.2.1
    rw [set_size] at this
    exact this
set_option maxRecDepth 100000 in
theorem meth_clean {n : Nat} (hn : n = Tryz.prog.types.size + Made.depth) (v : Option Addr) (w : World) : Sem.run Tryz.prog (method n 156 (.pointer v) "Next") w = .ok (285, .pointer v) w := by
  subst hn
  kernel_rfl
set_option maxRecDepth 100000 in
theorem call_clean (v : Value) (w : World) : Sem.run Tryz.prog (callFunc 285 #[v]) w = .ok (.enter 285 #[v]) w := by
  kernel_rfl
set_option maxHeartbeats 3200000 in
set_option maxRecDepth 100000 in
theorem ksettle_any {w : World} {B : Nat} {C : Array Value} {t : TypeId} (h : w.heap[B]? = some (.cells C t (0, 0))) (hC : 4 ≤ C.size) (hm : C[3]? = some (.bool false) ∨ ∃ c C', C[0]? = some (.pointer (some ⟨c, 0, none⟩)) ∧ C[3]? = some (.bool true) ∧ w.heap[c]? = some (.cells C' 205 (0, 0)) ∧ WantC C') :
    Calls Tryz.prog 103 #[.pointer (some ⟨B, 0, none⟩)] w fun e w' => e = .returned (.tuple #[]) ∧ Below w.heap.size w w' := by
  rcases hm with h3 | ⟨c, C', h0, h3, hc, hW⟩
  · have c3 := cells_at h h3
    go_enter Tryz.func103, Tryz.ntmps103
    go_wp2
    refine wp_loop_rounds 1 ?_
    iterate 2 (try rw [rounds_succ]; go_wp2)
    go_end0
    exact ⟨rfl, Below.refl _ _⟩
  · have c3 := cells_at h h3
    have c0 := cells_at h h0
    have cN := Lib.hid (knext_any hc hW)
    clear h hc hW h0 h3
    go_enter Tryz.func103, Tryz.ntmps103
    go_wp2
    refine wp_loop_rounds 1 ?_
    rw [rounds_succ]
    go_wp2_with fail
    rw [meth_clean (by kernel_rfl)]
    simp only [Result.andThen, call_clean]
    refine cN.out.mono ?_
    rintro e w1 ⟨⟨k, p, n, v, u, ba, bn, bc, rfl⟩, hB⟩
    unfold accM
    obtain ⟨X, hX⟩ : ∃ X, w1.heap.size = X := ⟨_, rfl⟩
    obtain ⟨V1, hV1⟩ : ∃ V, w1.alloc (.cells #[.int .i64 0, .int .i64 0, .int .i64 0, .int .u64 0, .int .u64 0, .slice none 0 0] 40) = V := ⟨_, rfl⟩
    obtain ⟨b1, r1, s1⟩ := at_new hV1
    rw [hX] at r1
    obtain ⟨d0, d1, d2, d3, d4, d5⟩ := blk6 r1
    have y0 := froz6 r1 0
    have y1 := froz6 r1 1
    have y2 := froz6 r1 2
    have y3 := froz6 r1 3
    have y4 := froz6 r1 4
    have y5 := froz6 r1 5
    obtain ⟨u1, u2⟩ := putA_new (k := k) (p := p) (n := n) (v := v) (u := u) (s := .slice ba bn bc) hX b1 r1
    have H1 := Lib.hid (hB.trans (u1.mono hB.size))
    clear hB b1 r1 u1 u2 s1 cN
    go_wp2
    refine bodyPost_ret (v := .tuple #[]) (by simp [results, Tryz.results103, go_sem]) rfl ⟨rfl, ?_⟩
    have h1 := H1.out
    unfold putA at h1
    exact h1
end Go.Proofs.YtpbhfckefmboaaaGreatDoor.Ba
