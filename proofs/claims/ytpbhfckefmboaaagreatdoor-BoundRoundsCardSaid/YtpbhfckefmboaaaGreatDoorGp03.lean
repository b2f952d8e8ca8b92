/- MbD, InA, InB, InC: in one text. -/
import Derived.Test.YtpbhfckefmboaaaGreatDoorGp02
set_option linter.unusedVariables false
set_option linter.unusedSimpArgs false
set_option linter.unusedSectionVars false
namespace Go.Proofs.YtpbhfckefmboaaaGreatDoor.Ba
open Go Go.RowKit Go.Lib Go.Base
/-- what stands while a buffer does something: the buffer, the access, the answer -/
def DoS (P Wb nw X : Nat) (ws : Nat → Int) (c : Int) (ac an : Array Value) (w V : World) : Prop := Turn2 P Wb w V ∧ Bufw V P Wb nw ws c ∧ V.heap[X]? = some (.cells ac 40) ∧ V.heap[X + 1]? = some (.cells an 42)
theorem DoS.below {P Wb nw X : Nat} {ws : Nat → Int} {c : Int} {ac an : Array Value} {w V V' : World} (h : DoS P Wb nw X ws c ac an w V) (hb : Below V.heap.size V V') : DoS P Wb nw X ws c ac an w V' := by
  obtain ⟨h1, h2, h3, h4⟩ := h
  have l3 := (Array.getElem?_eq_some_iff.1 h3).1
  have l4 := (Array.getElem?_eq_some_iff.1 h4).1
  exact ⟨h1.trans (.of hb), h2.below hb, (hb.block X l3).trans h3, (hb.block _ l4).trans h4⟩
theorem DoS.count {P Wb nw X : Nat} {ws : Nat → Int} {c : Int} {ac an : Array Value} {w V : World} (h : DoS P Wb nw X ws c ac an w V) (hX : P < X) : DoS P Wb nw X ws (wrap64 (c + 1)) ac an w (V.setCell ⟨P, 1, none⟩ (.int .i64 (wrap64 (c + 1)))) := by
  obtain ⟨h1, h2, h3, h4⟩ := h
  exact ⟨h1.trans Turn2.setP, h2.count _, (set_other (by omega)).trans h3, (set_other (by omega)).trans h4⟩
theorem DoS.put {P Wb nw X : Nat} {ws : Nat → Int} {c : Int} {ac an : Array Value} {w V V' : World} (h : DoS P Wb nw X ws c ac an w V) (hX : Wb < X) {i : Nat} (hi : i < nw) {x : Int} (hx : 0 ≤ x ∧ x < 18446744073709551616) (hp : PutB V V' Wb i (.int .u64 x)) : DoS P Wb nw X (wset ws i x) c ac an w V' := by
  obtain ⟨h1, h2, h3, h4⟩ := h
  have l3 := (Array.getElem?_eq_some_iff.1 h3).1
  have l4 := (Array.getElem?_eq_some_iff.1 h4).1
  exact ⟨h1.trans (.put hp), h2.store hi hx hp, (hp.block X l3).trans ((set_other (by omega)).trans h3), (hp.block _ l4).trans ((set_other (by omega)).trans h4)⟩
theorem Bufw.other {w : World} {P Wb n : Nat} {ws : Nat → Int} {c : Int} (h : Bufw w P Wb n ws c) {Y o : Nat} {v : Value} (h1 : P ≠ Y) (h2 : Wb ≠ Y) : Bufw (w.setCell ⟨Y, o, none⟩ v) P Wb n ws c :=
  ⟨(World.cell?_setCell_other _ _ _ _ (by simp [Ne.symm h1])).trans h.p0, (World.cell?_setCell_other _ _ _ _ (by simp [Ne.symm h1])).trans h.p1, (World.frozen?_setCell _ _ _ _).trans h.f1, fun j hj => (World.cell?_setCell_other _ _ _ _ (by simp [Ne.symm h2])).trans (h.r j hj), fun j hj => (World.frozen?_setCell _ _ _ _).trans (h.f j hj), h.b, h.ne, by rw [set_size]; exact h.pl, by rw [set_size]; exact h.wl, h.n0⟩
theorem Turn2.new {P Wb Y o : Nat} {w V : World} {v : Value} (h : Turn2 P Wb w V) (hY : w.heap.size ≤ Y) : Turn2 P Wb w (V.setCell ⟨Y, o, none⟩ v) :=
  ⟨h.os, h.tape, h.output, by rw [set_size]; exact h.size, fun k hk h1 h2 => (set_other (by omega)).trans (h.block k hk h1 h2)⟩
theorem DoS.set {P Wb nw X Y o : Nat} {ws : Nat → Int} {c : Int} {ac an : Array Value} {w V : World} {v : Value} (h : DoS P Wb nw X ws c ac an w V) (hX : w.heap.size = X) (hY : X + 1 < Y) (hP : P < X) (hW : Wb < X) : DoS P Wb nw X ws c ac an w (V.setCell ⟨Y, o, none⟩ v) := by
  obtain ⟨h1, h2, h3, h4⟩ := h
  exact ⟨h1.new (by omega), h2.other (by omega) (by omega), (set_other (by omega)).trans h3, (set_other (by omega)).trans h4⟩
theorem DoS.ans {P Wb nw X o : Nat} {ws : Nat → Int} {c : Int} {ac an : Array Value} {w V : World} {v : Value} (h : DoS P Wb nw X ws c ac an w V) (hX : w.heap.size = X) (hP : P < X) (hW : Wb < X) : DoS P Wb nw X ws c ac (an.setIfInBounds o v) w (V.setCell ⟨X + 1, o, none⟩ v) := by
  obtain ⟨h1, h2, h3, h4⟩ := h
  refine ⟨h1.new (by omega), h2.other (by omega) (by omega), (set_other (by omega)).trans h3, ?_⟩
  obtain ⟨hlt, hk⟩ := Array.getElem?_eq_some_iff.1 h4
  show (V.heap.modify (X + 1) _)[X + 1]? = _
  rw [Array.getElem?_eq_getElem (by rw [Array.size_modify]; exact hlt), Array.getElem_modify_self, hk]
  rfl
theorem blk3 {w : World} {b : Nat} {t : TypeId} {v0 v1 v2 : Value} (h : w.heap[b]? = some (.cells #[v0, v1, v2] t (0, 0))) : w.cell? ⟨b, 0, none⟩ = some v0 ∧ w.cell? ⟨b, 1, none⟩ = some v1 ∧ w.cell? ⟨b, 2, none⟩ = some v2 ∧ w.frozen? ⟨b, 0, none⟩ = false ∧ w.frozen? ⟨b, 1, none⟩ = false ∧ w.frozen? ⟨b, 2, none⟩ = false := by
  refine ⟨?_, ?_, ?_, ?_, ?_, ?_⟩ <;> simp [World.cell?, World.frozen?, h]
set_option maxHeartbeats 3200000 in
theorem do_store {P Wb nw : Nat} {ws : Nat → Int} {c : Int} (at_ n v u : Int) (ba : Option Addr) (bn bc : Nat) (hbn : bn ≤ 1000) (w : World) (h : Bufw w P Wb nw ws c) (hck : chkM (8 * nw) 2 at_ n bn = 0) (hn : 0 ≤ n ∧ n ≤ 8) (ha : 0 ≤ at_ ∧ at_ / 8 < (nw : Int)) (ha2 : at_ ≤ 1000000) :
    Calls Tryz.prog 128 #[.pointer (some ⟨P, 0, none⟩), accM 2 at_ n v u ba bn bc] w fun e w' => e = .returned (.tuple #[.agg #[.int .u64 0, .bool false, .slice none 0 0], .int .i64 0]) ∧ Turn2 P Wb w w' ∧ Bufw w' P Wb nw (wput ws at_ n v) (wrap64 (c + 1)) := by
  have hn0 := h.n0
  have cS := fun V (hV : Bufw V P Wb nw ws c) => bsize_any hV
  have cC := fun W => check_acc (8 * nw) 2 at_ n v u ba bn bc hbn (by omega) W
  rw [hck] at cC
  unfold accM at cC ⊢
  obtain ⟨X, hX⟩ : ∃ X, w.heap.size = X := ⟨_, rfl⟩
  obtain ⟨V1, hV1⟩ : ∃ V, w.alloc (.cells #[.int .i64 2, .int .i64 at_, .int .i64 n, .int .u64 v, .int .u64 u, .slice ba bn bc] 40) = V := ⟨_, rfl⟩
  have s1 : V1.heap.size = X + 1 := by rw [← hV1, ← hX]; simp
  obtain ⟨V2, hV2⟩ : ∃ V, V1.alloc (.cells #[.int .u64 0, .bool false, .slice none 0 0] 42) = V := ⟨_, rfl⟩
  have b1 : Below w.heap.size w V1 := by rw [← hV1]; exact (Below.refl _ _).alloc (Nat.le_refl _) _
  have b2 : Below V1.heap.size V1 V2 := by rw [← hV2]; exact (Below.refl _ _).alloc (Nat.le_refl _) _
  have r1 : V2.heap[X]? = some (.cells #[.int .i64 2, .int .i64 at_, .int .i64 n, .int .u64 v, .int .u64 u, .slice ba bn bc] 40) := by
    rw [b2.block X (by omega), ← hV1, ← hX]; exact heap_new _ _
  have r2 : V2.heap[X + 1]? = some (.cells #[.int .u64 0, .bool false, .slice none 0 0] 42) := by rw [← hV2, ← s1]; exact heap_new _ _
  obtain ⟨c0, c1, c2, c3, c4, c5⟩ := blk6 r1
  have s2 : V2.heap.size = X + 2 := by rw [← hV2]; simp [s1]
  have hB := (h.below b1).below b2
  have HX := Lib.hid (show DoS P Wb nw X ws c #[.int .i64 2, .int .i64 at_, .int .i64 n, .int .u64 v, .int .u64 u, .slice ba bn bc] #[.int .u64 0, .bool false, .slice none 0 0] w V2 from ⟨(Turn2.trans (Turn2.of b1) (Turn2.of b2) : Turn2 P Wb w V2), hB, r1, r2⟩)
  clear b1 b2 r1 r2 hB
  go_enter Tryz.func128, Tryz.ntmps128
  go_wp2_with (fail)
  go_region_with (first
    | (go_at_call 170; refine (cS _ (HX.out.2.1.below (Below.drew (Below.refl _ _)))).mono ?_; rintro e w1 ⟨rfl, hw⟩; subst w1)
    | (go_at_call 169; refine (cC _).mono ?_; rintro e w2 ⟨rfl, hB2⟩; have H2 := Lib.hid (HX.out.below ((Below.drew (Below.refl _ V2)).trans hB2)); clear hB2))
  all_goals clear cS cC c0 c1 c2 c3 c4 c5 HX s1 s2 hV1 hV2
  all_goals go_wp2_with (go_at_call 171; refine (add_one H2.out.2.1.p1 H2.out.2.1.f1).mono ?_; rintro e w3 ⟨rfl, hw⟩; have H3 := Lib.hid (hw ▸ H2.out.count (show P < X from hX ▸ h.pl)); clear hw; obtain ⟨c0, c1, c2, c3, c4, c5⟩ := blk6 H3.out.2.2.1)
  all_goals go_wp2_with (fail)
  all_goals refine (mat_any w3 H3.out.2.1.buf ha.1 ha.2 ha2 hn.1 hn.2).mono ?_
  all_goals rintro e w4 ⟨rfl, hB4⟩
  all_goals have H4 := Lib.hid (H3.out.below hB4)
  all_goals clear hB4 c0 c1 c2 c3 c4 c5
  all_goals unfold fldV
  all_goals obtain ⟨Y, hY⟩ : ∃ Y, w4.heap.size = Y := ⟨_, rfl⟩
  all_goals obtain ⟨V5, hV5⟩ : ∃ V, w4.alloc (.cells #[.pointer none, .int .u64 0, .int .u64 0] 270) = V := ⟨_, rfl⟩
  all_goals have b5 : Below w4.heap.size w4 V5 := by rw [← hV5]; exact (Below.refl _ _).alloc (Nat.le_refl _) _
  all_goals have H5 := Lib.hid (H4.out.below b5)
  all_goals have r5 : V5.heap[Y]? = some (.cells #[.pointer none, .int .u64 0, .int .u64 0] 270) := by rw [← hV5, ← hY]; exact heap_new _ _
  all_goals obtain ⟨g0, g1, g2, z0, z1, z2⟩ := blk3 r5
  all_goals obtain ⟨c0, c1, c2, c3, c4, c5⟩ := blk6 H5.out.2.2.1
  all_goals have x1 : ¬ X = Y := by have := (Array.getElem?_eq_some_iff.1 H4.out.2.2.1).1; omega
  all_goals have x2 : ¬ Y = X := fun e => x1 e.symm
  all_goals have HB5 := Lib.hid (And.intro b5 r5)
  all_goals clear b5 r5
  all_goals go_wp2_with (fail)
  all_goals obtain ⟨i, hi⟩ : ∃ i, (at_ / 8).toNat = i := ⟨_, rfl⟩
  all_goals obtain ⟨by_, hby⟩ : ∃ r, 8 * (at_ % 8) = r := ⟨_, rfl⟩
  all_goals rw [hi, hby]
  all_goals have hin : i < nw := by omega
  all_goals have hb0 : 0 ≤ by_ ∧ by_ ≤ 64 := by omega
  all_goals have hPX : P < X := hX ▸ h.pl
  all_goals have hWX : Wb < X := hX ▸ h.wl
  all_goals have hY2 : X + 1 < Y := by have := (Array.getElem?_eq_some_iff.1 H4.out.2.2.2).1; omega
  all_goals have H6 := Lib.hid (((H5.out.set (o := 0) (v := .pointer (some ⟨Wb, i, none⟩)) hX hY2 hPX hWX).set (o := 1) (v := .int .u64 by_) hX hY2 hPX hWX).set (o := 2) (v := .int .u64 (maskOf n)) hX hY2 hPX hWX)
  all_goals obtain ⟨V6, hV6⟩ : ∃ V, ((V5.setCell ⟨Y, 0, none⟩ (.pointer (some ⟨Wb, i, none⟩))).setCell ⟨Y, 1, none⟩ (.int .u64 by_)).setCell ⟨Y, 2, none⟩ (.int .u64 (maskOf n)) = V := ⟨_, rfl⟩
  all_goals rw [hV6] at H6 ⊢
  all_goals clear hV6 hV5 g0 g1 g2 z0 z1 z2 c0 c1 c2 c3 c4 c5
  all_goals refine (put_any V6 (H6.out.2.1.r i hin) (H6.out.2.1.f i hin) hb0.1 hb0.2).mono ?_
  all_goals rintro e w7 ⟨rfl, hP⟩
  all_goals have H7 := Lib.hid (H6.out.put hWX hin (fldPut_bd _ _ _ _) hP)
  all_goals clear hP
  all_goals obtain ⟨a0, a1, a2, y0, y1, y2⟩ := blk3 H7.out.2.2.2
  all_goals have H8 := Lib.hid ((((H7.out.ans (o := 0) (v := .int .u64 0) hX hPX hWX).ans (o := 1) (v := .bool false) hX hPX hWX).ans (o := 2) (v := .slice none 0 0) hX hPX hWX))
  all_goals go_wp2_with (fail)
  all_goals clear a0 a1 a2 y0 y1 y2
  all_goals obtain ⟨a0, a1, a2, y0, y1, y2⟩ := blk3 H8.out.2.2.2
  all_goals refine bodyPost_ret (v := .tuple #[.agg #[.int .u64 0, .bool false, .slice none 0 0], .int .i64 0]) (by simp [results, Tryz.results128, go_sem, a0, a1, a2]) rfl ⟨rfl, H8.out.1, ?_⟩
  all_goals unfold wput
  all_goals rw [hi, hby]
  all_goals exact H8.out.2.1
end Go.Proofs.YtpbhfckefmboaaaGreatDoor.Ba
namespace Go.Proofs.YtpbhfckefmboaaaGreatDoor.Ba
open Go Go.RowKit Go.Lib Go.Base
/-- a store that is to be done: place, width, number -/
abbrev Sto := Int × Int × Int
/-- a block of cells of a type -/
def HasTy (w : World) (g : Nat) (t : TypeId) : Prop := ∃ C, w.heap[g]? = some (.cells C t (0, 0))
theorem HasTy.lt {w : World} {g : Nat} {t : TypeId} (h : HasTy w g t) : g < w.heap.size := by
  obtain ⟨C, h⟩ := h
  exact (Array.getElem?_eq_some_iff.1 h).1
/-- stores in a row of accesses -/
def StoR (w : World) (I : Nat) (ga : Option Addr) (L : List Sto) : Prop := ∀ j x, L[j]? = some x → ∃ g o, ga = some ⟨g, o, none⟩ ∧ I < g ∧ HasTy w g 40 ∧ w.cell? ⟨g, o + 6 * j, none⟩ = some (.int .i64 2) ∧ w.cell? ⟨g, o + 6 * j + 1, none⟩ = some (.int .i64 x.1) ∧ w.cell? ⟨g, o + 6 * j + 2, none⟩ = some (.int .i64 x.2.1) ∧ w.cell? ⟨g, o + 6 * j + 3, none⟩ = some (.int .u64 x.2.2) ∧ w.cell? ⟨g, o + 6 * j + 4, none⟩ = some (.int .u64 0) ∧ w.cell? ⟨g, o + 6 * j + 5, none⟩ = some (.slice none 0 0)
theorem StoR.turn {w w' : World} {I : Nat} {ga : Option Addr} {L : List Sto} (h : StoR w I ga L) (ht : Turn2 I I w w') : StoR w' I ga L := fun j x hj => by
  obtain ⟨g, o, e, h1, h2, h3⟩ := h j x hj
  have hb := ht.block g h2.lt (Nat.ne_of_gt h1) (Nat.ne_of_gt h1)
  have hc : ∀ k, w'.cell? ⟨g, k, none⟩ = w.cell? ⟨g, k, none⟩ := fun k => by simp only [World.cell?, hb]
  exact ⟨g, o, e, h1, h2.imp fun C h => hb.trans h, by simpa only [hc] using h3⟩
/-- the machine: what is left to be stored -/
def InitS (w : World) (I : Nat) : List Sto → Prop
  | [] => w.heap[I]? = some (.cells #[.int .i64 0, .int .i64 0, .int .i64 0, .int .u64 0, .int .u64 0, .slice none 0 0, .nilFunc] 126)
  | x :: L => ∃ c2 c3 ga cap, w.heap[I]? = some (.cells #[.int .i64 2, .int .i64 x.1, .int .i64 x.2.1, .int .u64 x.2.2, .int .u64 0, .slice none 0 0, .func (.func 92) #[] #[.pointer (some ⟨c2, 0, none⟩), .pointer (some ⟨c3, 0, none⟩)]] 126) ∧
    w.cell? ⟨c2, 0, none⟩ = some (.pointer (some ⟨I, 0, none⟩)) ∧ w.cell? ⟨c3, 0, none⟩ = some (.slice ga (L.length + 1) cap) ∧ I < c2 ∧ I < c3 ∧ L.length + 1 ≤ cap ∧ cap ≤ 9223372036854775807 ∧ StoR w I ga (x :: L)
set_option maxHeartbeats 1600000 in
theorem all_nil {w : World} {I : Nat} {ga : Option Addr} {cap : Nat} :
    Calls Tryz.prog 60 #[.pointer (some ⟨I, 0, none⟩), .slice ga 0 cap] w fun e w' => e = .returned (.tuple #[]) ∧ Below w.heap.size w w' := by
  go_enter Tryz.func60, Tryz.ntmps60
  go_wp2
  go_end0
  exact ⟨rfl, ((Below.refl _ _).alloc (Nat.le_refl _) _).alloc (by simp) _⟩
theorem blk7b {w : World} {b : Nat} {t : TypeId} {v0 v1 v2 v3 v4 v5 v6 : Value} (h : w.heap[b]? = some (.cells #[v0, v1, v2, v3, v4, v5, v6] t (0, 0))) : w.cell? ⟨b, 0, none⟩ = some v0 ∧ w.cell? ⟨b, 1, none⟩ = some v1 ∧ w.cell? ⟨b, 2, none⟩ = some v2 ∧ w.cell? ⟨b, 3, none⟩ = some v3 ∧ w.cell? ⟨b, 4, none⟩ = some v4 ∧ w.cell? ⟨b, 5, none⟩ = some v5 ∧ w.cell? ⟨b, 6, none⟩ = some v6 ∧ ∀ o, o < 7 → w.frozen? ⟨b, o, none⟩ = false := by
  refine ⟨?_, ?_, ?_, ?_, ?_, ?_, ?_, fun o ho => ?_⟩ <;> simp [World.cell?, World.frozen?, h]
/-- seven cells are stored, one behind the other -/
theorem set7 {w : World} {b : Nat} {t : TypeId} {C : Array Value} (h : w.heap[b]? = some (.cells C t (0, 0))) (o : Nat) (v : Value) : (w.setCell ⟨b, o, none⟩ v).heap[b]? = some (.cells (C.setIfInBounds o v) t (0, 0)) := by
  obtain ⟨hlt, hk⟩ := Array.getElem?_eq_some_iff.1 h
  show (w.heap.modify b _)[b]? = _
  rw [Array.getElem?_eq_getElem (by rw [Array.size_modify]; exact hlt), Array.getElem_modify_self, hk]
  rfl
set_option maxHeartbeats 3200000 in
theorem cont_do {w : World} {I : Nat} {t : TypeId} {p n v u k : Int} {ff cf : Array Value} {g : FuncId} (h : w.heap[I]? = some (.cells #[.int .i64 0, .int .i64 0, .int .i64 0, .int .u64 0, .int .u64 0, .slice none 0 0, .nilFunc] t (0, 0))) :
    Calls Tryz.prog 91 #[.pointer (some ⟨I, 0, none⟩), .agg #[.int .i64 k, .int .i64 p, .int .i64 n, .int .u64 v, .int .u64 u, .slice none 0 0], .func (.func g) ff cf] w fun e w' => e = .returned (.tuple #[]) ∧ Turn2 I I w w' ∧ w'.heap[I]? = some (.cells #[.int .i64 k, .int .i64 p, .int .i64 n, .int .u64 v, .int .u64 u, .slice none 0 0, .func (.func g) ff cf] t (0, 0)) := by
  obtain ⟨V, hV⟩ : ∃ V, w.alloc (.cells #[.int .i64 k, .int .i64 p, .int .i64 n, .int .u64 v, .int .u64 u, .slice none 0 0] 40) = V := ⟨_, rfl⟩
  have bV : Below w.heap.size w V := by rw [← hV]; exact (Below.refl _ _).alloc (Nat.le_refl _) _
  obtain ⟨X, hX⟩ : ∃ X, w.heap.size = X := ⟨_, rfl⟩
  have hst : ∀ (a : Addr) (g : FuncId) (u v : Array Value) (m : Mode) (w : World), (store a (.func (.func g) u v) m).run Tryz.prog w = stored Tryz.prog w a (.func (.func g) u v) m := fun _ _ _ _ _ _ => rfl
  have rV : V.heap[X]? = some (.cells #[.int .i64 k, .int .i64 p, .int .i64 n, .int .u64 v, .int .u64 u, .slice none 0 0] 40) := by rw [← hV, ← hX]; exact heap_new _ _
  obtain ⟨d0, d1, d2, d3, d4, d5⟩ := blk6 rV
  have hv := (bV.block I (Array.getElem?_eq_some_iff.1 h).1).trans h
  obtain ⟨c0, c1, c2, c3, c4, c5, c6, hz⟩ := blk7b hv
  have z0 := hz 0 (by decide)
  have z1 := hz 1 (by decide)
  have z2 := hz 2 (by decide)
  have z3 := hz 3 (by decide)
  have z4 := hz 4 (by decide)
  have z5 := hz 5 (by decide)
  have z6 := hz 6 (by decide)
  have H := Lib.hid (And.intro bV hv)
  clear h hz bV hv rV
  go_enter Tryz.func91, Tryz.ntmps91
  go_wp2
  go_end0
  refine ⟨rfl, (Turn2.of H.out.1).trans ((((((Turn2.setP.trans .setP).trans .setP).trans .setP).trans .setP).trans .setP).trans .setP), ?_⟩
  have k := set7 (set7 (set7 (set7 (set7 (set7 (set7 H.out.2 0 (.int .i64 k)) 1 (.int .i64 p)) 2 (.int .i64 n)) 3 (.int .u64 v)) 4 (.int .u64 u)) 5 (.slice none 0 0)) 6 (.func (.func g) ff cf)
  simpa using k
theorem all_fin {w V w1 : World} {I X g o cap : Nat} {p n v : Int} {L : List Sto} (hX : w.heap.size = X) (hI : I < X) (b3 : Below w.heap.size w V) (r1 : V.heap[X]? = some (.cells #[.pointer (some ⟨I, 0, none⟩)] 82)) (r2 : V.heap[X + 1]? = some (.cells #[.slice (some ⟨g, o, none⟩) (L.length + 1) cap] 127)) (hr : StoR V I (some ⟨g, o, none⟩) ((p, n, v) :: L)) (hc : L.length + 1 ≤ cap) (hc2 : cap ≤ 9223372036854775807) (hT : Turn2 I I V.drew w1)
    (hh : w1.heap[I]? = some (.cells #[.int .i64 2, .int .i64 p, .int .i64 n, .int .u64 v, .int .u64 0, .slice none 0 0, .func (.func 92) #[] #[.pointer (some ⟨X, 0, none⟩), .pointer (some ⟨X + 1, 0, none⟩)]] 126)) : Turn2 I I w w1 ∧ InitS w1 I ((p, n, v) :: L) := by
  have ht : Turn2 I I V w1 := (Turn2.of (Below.drew (Below.refl _ _))).trans hT
  have e1 : w1.heap[X]? = _ := (ht.block X (Array.getElem?_eq_some_iff.1 r1).1 (by omega) (by omega)).trans r1
  have e2 : w1.heap[X + 1]? = _ := (ht.block (X + 1) (Array.getElem?_eq_some_iff.1 r2).1 (by omega) (by omega)).trans r2
  exact ⟨(Turn2.of b3).trans ht, X, X + 1, _, cap, hh, by simp [World.cell?, e1], by simp [World.cell?, e2], by omega, by omega, hc, hc2, hr.turn ht⟩
set_option maxHeartbeats 3200000 in
theorem all_some {w : World} {I : Nat} {ga : Option Addr} {cap : Nat} {x : Sto} {L : List Sto} (h0 : InitS w I []) (hr : StoR w I ga (x :: L)) (hc : L.length + 1 ≤ cap) (hc2 : cap ≤ 9223372036854775807) :
    Calls Tryz.prog 60 #[.pointer (some ⟨I, 0, none⟩), .slice ga (L.length + 1) cap] w fun e w' => e = .returned (.tuple #[]) ∧ Turn2 I I w w' ∧ InitS w' I (x :: L) := by
  obtain ⟨g, o, rfl, hgI, hgl', q0, q1, q2, q3, q4, q5⟩ := hr 0 x rfl
  have hgl := hgl'.lt
  clear hgl'
  have hg : g ≠ I := Nat.ne_of_gt hgI
  clear hgI
  obtain ⟨p, n, v⟩ := x
  rw [Nat.mul_zero, Nat.add_zero] at q0 q1 q2 q3 q4 q5
  obtain ⟨X, hX⟩ : ∃ X, w.heap.size = X := ⟨_, rfl⟩
  have hI : I < X := hX ▸ (Array.getElem?_eq_some_iff.1 h0).1
  obtain ⟨V1, hV1⟩ : ∃ V, w.alloc (.cells #[.pointer (some ⟨I, 0, none⟩)] 82) = V := ⟨_, rfl⟩
  have s1 : V1.heap.size = X + 1 := by rw [← hV1, ← hX]; simp
  obtain ⟨V2, hV2⟩ : ∃ V, V1.alloc (.cells #[.slice (some ⟨g, o, none⟩) (L.length + 1) cap] 127) = V := ⟨_, rfl⟩
  have s2 : V2.heap.size = X + 2 := by rw [← hV2]; simp [s1]
  have b1 : Below w.heap.size w V1 := by rw [← hV1]; exact (Below.refl _ _).alloc (Nat.le_refl _) _
  have b2 : Below V1.heap.size V1 V2 := by rw [← hV2]; exact (Below.refl _ _).alloc (Nat.le_refl _) _
  have b3 : Below w.heap.size w V2 := b1.trans (b2.mono b1.size)
  have r1 : V2.heap[X]? = some (.cells #[.pointer (some ⟨I, 0, none⟩)] 82) := by rw [b2.block X (by omega), ← hV1, ← hX]; exact heap_new _ _
  have r2 : V2.heap[X + 1]? = some (.cells #[.slice (some ⟨g, o, none⟩) (L.length + 1) cap] 127) := by rw [← hV2, ← s1]; exact heap_new _ _
  have d0 : V2.cell? ⟨X, 0, none⟩ = some (.pointer (some ⟨I, 0, none⟩)) := by simp [World.cell?, r1]
  have d1 : V2.cell? ⟨X + 1, 0, none⟩ = some (.slice (some ⟨g, o, none⟩) (L.length + 1) cap) := by simp [World.cell?, r2]
  have up : ∀ k u, w.cell? ⟨g, k, none⟩ = some u → V2.cell? ⟨g, k, none⟩ = some u := fun k u h => (b3.cell hgl).trans h
  have q0' := up _ _ q0
  have q1' := up _ _ q1
  have q2' := up _ _ q2
  have q3' := up _ _ q3
  have q4' := up _ _ q4
  have q5' := up _ _ q5
  have hz : V2.heap[I]? = _ := (b3.block I (by rw [hX]; exact hI)).trans h0
  have cD := fun (W : World) (h : W.heap[I]? = some (.cells #[.int .i64 0, .int .i64 0, .int .i64 0, .int .u64 0, .int .u64 0, .slice none 0 0, .nilFunc] 126 (0, 0))) (ff cf : Array Value) (g : FuncId) => cont_do (p := p) (n := n) (v := v) (u := 0) (k := 2) (ff := ff) (cf := cf) (g := g) h
  have e1 : (0 : Int) < ((L.length + 1 : Nat) : Int) := by omega
  have H := Lib.hid (And.intro b3 (And.intro hz (And.intro r1 (And.intro r2 (hr.turn (.of b3))))))
  clear q0 q1 q2 q3 q4 q5 up b1 b2 b3 r1 r2 hz hr h0
  go_enter Tryz.func60, Tryz.ntmps60
  go_wp2_with (fail)
  go_region_with (go_at_call 91; refine (cD _ ((Below.block (Below.drew (Below.refl _ V2)) I (Array.getElem?_eq_some_iff.1 H.out.2.1).1).trans H.out.2.1) _ _ _).mono ?_; rintro e w1 ⟨rfl, hT, hh⟩; have H1 := Lib.hid (And.intro hT hh); clear hT hh)
  all_goals go_wp2
  all_goals go_end0
  all_goals exact ⟨rfl, all_fin hX hI H.out.1 H.out.2.2.1 H.out.2.2.2.1 H.out.2.2.2.2 hc hc2 H1.out.1 H1.out.2⟩
end Go.Proofs.YtpbhfckefmboaaaGreatDoor.Ba
namespace Go.Proofs.YtpbhfckefmboaaaGreatDoor.Ba
open Go Go.RowKit Go.Lib Go.Base
theorem StoR.tail {w : World} {I g o : Nat} {x : Sto} {L : List Sto} (h : StoR w I (some ⟨g, o, none⟩) (x :: L)) : StoR w I (some ⟨g, o + 6, none⟩) L := fun j y hj => by
  obtain ⟨g', o', e, h1, h2, h3⟩ := h (j + 1) y hj
  injection e with e
  injection e with e1 e2
  subst e1 e2
  exact ⟨g, o + 6, rfl, h1, h2, by simpa only [show o + 6 + 6 * j = o + 6 * (j + 1) by omega] using h3⟩
set_option maxHeartbeats 3200000 in
theorem all1_any {w : World} {I c2 c3 : Nat} {ga : Option Addr} {cap : Nat} {x : Sto} {L : List Sto} {a : Int} {bb : Bool} {xa : Option Addr} {xn xc : Nat} (h0 : InitS w I []) (k2 : w.cell? ⟨c2, 0, none⟩ = some (.pointer (some ⟨I, 0, none⟩))) (k3 : w.cell? ⟨c3, 0, none⟩ = some (.slice ga (L.length + 1) cap)) (hr : StoR w I ga (x :: L)) (hc : L.length + 1 ≤ cap) (hc2 : cap ≤ 9223372036854775807) :
    Calls Tryz.prog 92 #[.agg #[.int .u64 a, .bool bb, .slice xa xn xc], .pointer (some ⟨c2, 0, none⟩), .pointer (some ⟨c3, 0, none⟩)] w fun e w' => e = .returned (.tuple #[]) ∧ Turn2 I I w w' ∧ InitS w' I L := by
  obtain ⟨g, o, rfl, hgI, hgl', -⟩ := hr 0 x rfl
  have hgl := hgl'.lt
  clear hgl'
  have hg : g ≠ I := Nat.ne_of_gt hgI
  clear hgI
  obtain ⟨V, hV⟩ : ∃ V, w.alloc (.cells #[.int .u64 a, .bool bb, .slice xa xn xc] 42) = V := ⟨_, rfl⟩
  have bV : Below w.heap.size w V := by rw [← hV]; exact (Below.refl _ _).alloc (Nat.le_refl _) _
  have d2 := (bV.cell (World.block_lt_of_cell? w _ k2)).trans k2
  have d3 := (bV.cell (World.block_lt_of_cell? w _ k3)).trans k3
  have hz : V.heap[I]? = _ := (bV.block I (Array.getElem?_eq_some_iff.1 h0).1).trans h0
  have hd : Below V.heap.size V V.drew := (Below.refl _ _).drew
  have hz2 : InitS V.drew I [] := hz
  have hT : Turn2 I I w V.drew := (Turn2.of bV).trans (.of hd)
  have hr2 : StoR V.drew I (some ⟨g, o + 6, none⟩) L := (hr.turn hT).tail
  have HT := Lib.hid (And.intro hT hz2)
  clear hr h0 k2 k3 bV hz hT hd hz2
  cases L with
  | nil =>
    have cA := fun (W : World) ga cap => all_nil (w := W) (I := I) (ga := ga) (cap := cap)
    by_cases h1 : cap = 1
    · subst h1
      go_enter Tryz.func92, Tryz.ntmps92
      go_wp2_with (fail)
      go_region_with (go_at_call 60; refine (cA _ _ _).mono ?_; rintro e w1 ⟨rfl, hB⟩; have HB := Lib.hid hB; clear hB)
      all_goals go_wp2
      all_goals go_end0
      all_goals exact ⟨rfl, HT.out.1.trans (.of HB.out), (HB.out.block I (Array.getElem?_eq_some_iff.1 HT.out.2).1).trans HT.out.2⟩
    · have h2 : ¬ (cap : Int) < 1 := by omega
      go_enter Tryz.func92, Tryz.ntmps92
      go_wp2_with (fail)
      go_region_with (go_at_call 60; refine (cA _ _ _).mono ?_; rintro e w1 ⟨rfl, hB⟩; have HB := Lib.hid hB; clear hB)
      all_goals go_wp2
      all_goals go_end0
      all_goals exact ⟨rfl, HT.out.1.trans (.of HB.out), (HB.out.block I (Array.getElem?_eq_some_iff.1 HT.out.2).1).trans HT.out.2⟩
  | cons y L =>
    have hl : (y :: L).length = L.length + 1 := rfl
    rw [hl] at d3 hc
    have cA := all_some (cap := cap - 1) HT.out.2 hr2 (by omega) (by omega)
    have h1 : ¬ cap = 1 := by omega
    have h2 : ¬ cap = 0 := by omega
    have h3 : (1 : Int) ≤ ((L.length + 1 + 1 : Nat) : Int) := by omega
    go_enter Tryz.func92, Tryz.ntmps92
    go_wp2_with (fail)
    go_region_with (go_at_call 60; refine cA.mono ?_; rintro e w1 ⟨rfl, hB, hI⟩; have HB := Lib.hid (And.intro hB hI); clear hB hI)
    all_goals go_wp2
    all_goals go_end0
    all_goals exact ⟨rfl, HT.out.1.trans HB.out.1, HB.out.2⟩
/-- a machine is emptied: its next access, and what it does then -/
def wipe7 (V : World) (I : Nat) : World := ((((((V.setCell ⟨I, 0, none⟩ (.int .i64 0)).setCell ⟨I, 1, none⟩ (.int .i64 0)).setCell ⟨I, 2, none⟩ (.int .i64 0)).setCell ⟨I, 3, none⟩ (.int .u64 0)).setCell ⟨I, 4, none⟩ (.int .u64 0)).setCell ⟨I, 5, none⟩ (.slice none 0 0)).setCell ⟨I, 6, none⟩ .nilFunc
theorem wipe7_turn (V : World) (I : Nat) : Turn2 I I V (wipe7 V I) := (((((Turn2.setP.trans .setP).trans .setP).trans .setP).trans .setP).trans .setP).trans .setP
theorem wipe7_init {V : World} {I : Nat} {v0 v1 v2 v3 v4 v5 v6 : Value} (hv : V.heap[I]? = some (.cells #[v0, v1, v2, v3, v4, v5, v6] 126)) : InitS (wipe7 V I) I [] := by
  have j := set7 (set7 (set7 (set7 (set7 (set7 (set7 hv 0 (.int .i64 0)) 1 (.int .i64 0)) 2 (.int .i64 0)) 3 (.int .u64 0)) 4 (.int .u64 0)) 5 (.slice none 0 0)) 6 .nilFunc
  show (wipe7 V I).heap[I]? = _
  unfold wipe7
  simpa using j
theorem Turn2.cell {I b o : Nat} {w w' : World} {u : Value} (h : Turn2 I I w w') (hb : b ≠ I) (hc : w.cell? ⟨b, o, none⟩ = some u) : w'.cell? ⟨b, o, none⟩ = some u := by
  have e := h.block b (World.block_lt_of_cell? w _ hc) hb hb
  have : w'.cell? ⟨b, o, none⟩ = w.cell? ⟨b, o, none⟩ := by simp only [World.cell?, e]
  exact this.trans hc
end Go.Proofs.YtpbhfckefmboaaaGreatDoor.Ba
namespace Go.Proofs.YtpbhfckefmboaaaGreatDoor.Ba
open Go Go.RowKit Go.Lib Go.Base
set_option maxRecDepth 100000 in
theorem func_nil (w : World) (g : FuncId) (u c : Array Value) : (binOp .eql 122 (.func (.func g) u c) .nilFunc).run Tryz.prog w = .ok (.bool false) w := by
  kernel_rfl
set_option maxHeartbeats 3200000 in
set_option maxRecDepth 100000 in
theorem ctake_init {w : World} {I : Nat} {x : Sto} {L : List Sto} {a : Int} {bb : Bool} {xa : Option Addr} {xn xc : Nat} (h : InitS w I (x :: L)) :
    Calls Tryz.prog 264 #[.pointer (some ⟨I, 0, none⟩), .agg #[.int .u64 a, .bool bb, .slice xa xn xc]] w fun e w' => e = .returned (.tuple #[]) ∧ Turn2 I I w w' ∧ InitS w' I L := by
  obtain ⟨p, n, v⟩ := x
  obtain ⟨c2, c3, ga, cap, h0, k2, k3, n2, n3, hc, hc2, hr⟩ := h
  obtain ⟨V, hV⟩ : ∃ V, w.alloc (.cells #[.int .u64 a, .bool bb, .slice xa xn xc] 42) = V := ⟨_, rfl⟩
  have bV : Below w.heap.size w V := by rw [← hV]; exact (Below.refl _ _).alloc (Nat.le_refl _) _
  have hv := (bV.block I (Array.getElem?_eq_some_iff.1 h0).1).trans h0
  obtain ⟨X, hX⟩ : ∃ X, w.heap.size = X := ⟨_, rfl⟩
  have hIX : I < X := hX ▸ (Array.getElem?_eq_some_iff.1 h0).1
  have rV : V.heap[X]? = some (.cells #[.int .u64 a, .bool bb, .slice xa xn xc] 42) := by rw [← hV, ← hX]; exact heap_new _ _
  obtain ⟨g0, g1, g2, y0, y1, y2⟩ := blk3 rV
  obtain ⟨c0', c1', c2', c3', c4', c5', c6', hz⟩ := blk7b hv
  have z0 := hz 0 (by decide)
  have z1 := hz 1 (by decide)
  have z2 := hz 2 (by decide)
  have z3 := hz 3 (by decide)
  have z4 := hz 4 (by decide)
  have z5 := hz 5 (by decide)
  have z6 := hz 6 (by decide)
  have ne1 : ¬ I = X := by omega
  have ne2 : ¬ X = I := by omega
  have hT : Turn2 I I w (wipe7 V I) := (Turn2.of bV).trans (wipe7_turn V I)
  have cA := all1_any (a := a) (bb := bb) (xa := xa) (xn := xn) (xc := xc) (wipe7_init hv) (hT.cell (Nat.ne_of_gt n2) k2) (hT.cell (Nat.ne_of_gt n3) k3) (hr.turn hT) hc hc2
  unfold wipe7 at cA
  have CA := Lib.hid cA
  clear cA
  have hst : ∀ (a : Addr) (m : Mode) (w : World), (store a .nilFunc m).run Tryz.prog w = stored Tryz.prog w a .nilFunc m := fun a m w => run_store Tryz.prog w a _ m rfl
  have HT := Lib.hid hT
  clear hT hr k2 k3 h0 hv hz bV rV hc hc2
  go_enter Tryz.func264, Tryz.ntmps264
  go_wp2_with (fail)
  simp only [func_nil, Result.andThen]
  go_wp2_with (go_at_call 92; refine CA.out.mono ?_; rintro e w1 ⟨rfl, hB, hI⟩; have HB := Lib.hid (And.intro hB hI); clear hB hI)
  go_end0
  exact ⟨rfl, HT.out.trans HB.out.1, HB.out.2⟩
end Go.Proofs.YtpbhfckefmboaaaGreatDoor.Ba
