/- ScF, ScG: in one text. -/
import Derived.Test.YtpbhfckefmboaaaGreatDoorGp07
set_option linter.unusedVariables false
set_option linter.unusedSimpArgs false
set_option linter.unusedSectionVars false
namespace Go.Proofs.YtpbhfckefmboaaaGreatDoor.Ba
open Go Go.RowKit Go.Lib Go.Base
/-- all stays but some blocks and what is new -/
structure TrK (K : Nat → Prop) (w V : World) : Prop where
  os : V.os = w.os
  tape : V.tape = w.tape
  output : V.output = w.output
  size : w.heap.size ≤ V.heap.size
  block : ∀ k, k < w.heap.size → ¬ K k → V.heap[k]? = w.heap[k]?
theorem TrK.of {K : Nat → Prop} {w V : World} (h : Below w.heap.size w V) : TrK K w V := ⟨h.os, h.tape, h.output, h.size, fun k hk _ => h.block k hk⟩
theorem TrK.refl (K : Nat → Prop) (w : World) : TrK K w w := .of (Below.refl _ _)
theorem TrK.trans {K : Nat → Prop} {w V V' : World} (h : TrK K w V) (h' : TrK K V V') : TrK K w V' := ⟨h'.os.trans h.os, h'.tape.trans h.tape, h'.output.trans h.output, Nat.le_trans h.size h'.size, fun k hk hn => (h'.block k (Nat.lt_of_lt_of_le hk h.size) hn).trans (h.block k hk hn)⟩
theorem TrK.mono {K K' : Nat → Prop} {w V : World} (h : TrK K w V) (hK : ∀ k, k < w.heap.size → K k → K' k) : TrK K' w V := ⟨h.os, h.tape, h.output, h.size, fun k hk hn => h.block k hk fun h => hn (hK k hk h)⟩
theorem TrK.below {K : Nat → Prop} {w V V' : World} (h : TrK K w V) (hb : Below V.heap.size V V') : TrK K w V' := h.trans (.of hb)
theorem TrK.set {K : Nat → Prop} {w V : World} {Y o : Nat} {v : Value} (h : TrK K w V) (hY : K Y ∨ w.heap.size ≤ Y) : TrK K w (V.setCell ⟨Y, o, none⟩ v) := ⟨h.os, h.tape, h.output, by rw [set_size]; exact h.size, fun k hk hn => (set_other (fun e => by subst e; exact hY.elim hn (by omega))).trans (h.block k hk hn)⟩
theorem Tr3.toK {P Wb E : Nat} {w V : World} (h : Tr3 P Wb E w V) : TrK (fun k => k = P ∨ k = Wb ∨ k = E) w V := ⟨h.os, h.tape, h.output, h.size, fun k hk hn => h.block k hk (fun e => hn (.inl e)) (fun e => hn (.inr (.inl e))) (fun e => hn (.inr (.inr e)))⟩
theorem Turn2.toK {P Wb : Nat} {w V : World} (h : Turn2 P Wb w V) : TrK (fun k => k = P ∨ k = Wb) w V := ⟨h.os, h.tape, h.output, h.size, fun k hk hn => h.block k hk (fun e => hn (.inl e)) (fun e => hn (.inr e))⟩
theorem TrK.toBelow {K : Nat → Prop} {w V : World} {n : Nat} (h : TrK K w V) (hK : ∀ k, K k → n ≤ k) (hn : n ≤ w.heap.size) : Below n w V := ⟨h.os, h.tape, h.output, h.size, fun k hk => h.block k (Nat.lt_of_lt_of_le hk hn) fun h => by have := hK k h; omega⟩
theorem TrK.grown {K : Nat → Prop} {w V V' : World} {g : Option Nat} (h : TrK K w V) (hg : V.grownBy V' g) (hK : ∀ k, g = some k → K k ∨ w.heap.size ≤ k) : TrK K w V' :=
  ⟨hg.os.trans h.os, hg.tape.trans h.tape, hg.output.trans h.output, Nat.le_trans h.size hg.size, fun k hk hn => (hg.block k (Nat.lt_of_lt_of_le hk h.size) (fun e => (hK k e.symm).elim hn (by omega))).trans (h.block k hk hn)⟩
theorem Bufw.kept {w w' : World} {P Wb n : Nat} {ws : Nat → Int} {c : Int} (h : Bufw w P Wb n ws c) (hs : w.heap.size ≤ w'.heap.size) (hP : w'.heap[P]? = w.heap[P]?) (hW : w'.heap[Wb]? = w.heap[Wb]?) : Bufw w' P Wb n ws c := by
  have cP : ∀ o, w'.cell? ⟨P, o, none⟩ = w.cell? ⟨P, o, none⟩ := fun o => by simp only [World.cell?, hP]
  have cW : ∀ o, w'.cell? ⟨Wb, o, none⟩ = w.cell? ⟨Wb, o, none⟩ := fun o => by simp only [World.cell?, hW]
  have fP : ∀ o, w'.frozen? ⟨P, o, none⟩ = w.frozen? ⟨P, o, none⟩ := fun o => by simp only [World.frozen?, hP]
  have fW : ∀ o, w'.frozen? ⟨Wb, o, none⟩ = w.frozen? ⟨Wb, o, none⟩ := fun o => by simp only [World.frozen?, hW]
  exact ⟨(cP 0).trans h.p0, (cP 1).trans h.p1, (fP 1).trans h.f1, fun j hj => (cW j).trans (h.r j hj), fun j hj => (fW j).trans (h.f j hj), h.b, h.ne, Nat.lt_of_lt_of_le h.pl hs, Nat.lt_of_lt_of_le h.wl hs, h.n0⟩
variable {w V : World} {S a E P Wb nw : Nat} {ws ws' : Nat → Int} {c c' : Int} {mv e0 e1 e2 : Value}
theorem step_init {I : Nat} {p n v : Int} {L : List Sto} {z : Int} (h : StG w S a E P Wb nw ws c (.iface 82 (.pointer (some ⟨I, 0, none⟩))) (.int .i64 z) e1 e2) (hI : InitS w I ((p, n, v) :: L)) (hP : P < I) (hW : Wb < I) (hck : chkM (8 * nw) 2 p n 0 = 0) (hn : 0 ≤ n ∧ n ≤ 8) (hat : 0 ≤ p ∧ p / 8 < (nw : Int)) (hat2 : p ≤ 1000000) :
    Calls Tryz.prog 104 #[.pointer (some ⟨S, 0, none⟩), .pointer (some ⟨a, 0, none⟩), .pointer (some ⟨E, 0, none⟩)] w fun e w' => e = .returned (.int .i64 0) ∧ TrK (fun k => k = P ∨ k = Wb ∨ k = E ∨ k = I) w w' ∧ Bufw w' P Wb nw (wput ws p n v) (wrap64 (c + 1)) ∧ w'.heap[E]? = some (.cells (evC (.int .i64 z) e1 e2 2 p n v 0 (.slice none 0 0) 0 false (.slice none 0 0)) 44) ∧ InitS w' I L := by
  have hEv : Ev w E := ⟨⟨_, h.fe⟩, z, by simp [World.cell?, h.fe]⟩
  have hEI : E ≠ I := by
    intro e
    subst e
    have := h.fe
    obtain ⟨_, _, _, _, h0, -⟩ := hI
    rw [h0] at this
    injection this with this
    injection this with _ this _
    revert this
    decide
  have hIV : ∀ V, Tr3 P Wb E w V → InitS V I ((p, n, v) :: L) := fun V ht => hI.kept fun k hk hk2 hne => ht.block k hk2 (by omega) (by omega) (fun e => hne (e ▸ hEv))
  refine (step_ok (bs := none) (rs := none) (av := 0) (ad := false) (ws' := wput ws p n v) (c' := wrap64 (c + 1)) (fT := 263) (Post := fun V V' => Turn2 I I V V' ∧ InitS V' I L) h
    (anext_init h.fa fun V hV => next_init (hI.below hV))
    (fun V _ => (clone_nil 0 0 V).mono fun e V' h => ⟨none, 0, 0, h.1, h.2, rfl⟩)
    ?_ ?_ (fun n hn W => meth_take hn _ W) (fun x W => call_take _ _ W)
    (fun V ya yn yc ht hB hr => (take_init (hIV V ht)).mono fun e V' h => h)).mono ?_
  · intro V xa xn xc hb hr
    cases (show Value.slice xa xn xc = .slice none 0 0 from hr)
    exact (do_store p n v 0 none 0 0 (by omega) _ (h.fb.below hb) hck hn hat hat2).mono fun e V' h => ⟨none, 0, 0, h.1, h.2.1, h.2.2, rfl⟩
  · intro V xa xn xc hb hr
    cases (show Value.slice xa xn xc = .slice none 0 0 from hr)
    exact (clone_nil 0 0 V).mono fun e V' h => ⟨none, 0, 0, h.1, h.2, rfl⟩
  · rintro e w' ⟨rfl, V, xa, xn, xc, ra, rn, rc, hT, hB, hE, hx, hr, hT2, hI2⟩
    cases (show Value.slice xa xn xc = .slice none 0 0 from hx)
    cases (show Value.slice ra rn rc = .slice none 0 0 from hr)
    have hEl := (Array.getElem?_eq_some_iff.1 hE).1
    exact ⟨rfl, (hT.toK.mono fun k _ hk => by rcases hk with h | h | h <;> simp [h]).trans (hT2.toK.mono fun k _ hk => by rcases hk with h | h <;> simp [h]), hB.kept hT2.size (hT2.block P hB.pl (by omega) (by omega)) (hT2.block Wb hB.wl (by omega) (by omega)), (hT2.block E hEl hEI hEI).trans hE, hI2⟩
end Go.Proofs.YtpbhfckefmboaaaGreatDoor.Ba
namespace Go.Proofs.YtpbhfckefmboaaaGreatDoor.Ba
open Go Go.RowKit Go.Lib Go.Base
set_option maxRecDepth 100000 in
set_option maxHeartbeats 3200000 in
theorem act_step {w : World} {S P E i a : Nat} {clock q : Int} {tr mv : Value} {As : List Nat} {Q : Int → World → Prop} (hW : WldR w S P clock tr As) (hA : As.length ≤ 1000) (ha : As[i]? = some a) (hR : ActR w a mv false)
    (hS : ∀ V, Below w.heap.size w V → Calls Tryz.prog 104 #[.pointer (some ⟨S, 0, none⟩), .pointer (some ⟨a, 0, none⟩), .pointer (some ⟨E, 0, none⟩)] V fun e w' => ∃ r, e = .returned (.int .i64 r) ∧ Q r w') :
    Calls Tryz.prog 76 #[.pointer (some ⟨S, 0, none⟩), .agg #[.int .i64 0, .int .i64 (i : Int), .int .i64 q], .pointer (some ⟨E, 0, none⟩)] w fun e w' => ∃ r, e = .returned (.int .i64 r) ∧ Q r w' := by
  obtain ⟨X, hX⟩ : ∃ X, w.heap.size = X := ⟨_, rfl⟩
  obtain ⟨V, hV⟩ : ∃ V, w.alloc (.cells #[.int .i64 0, .int .i64 (i : Int), .int .i64 q] 36) = V := ⟨_, rfl⟩
  obtain ⟨bV, rV, sV⟩ := at_new hV
  rw [hX] at rV
  obtain ⟨g0, g1, g2, -, -, -⟩ := blk3 rV
  have hlt := (Array.getElem?_eq_some_iff.1 hR).1
  have rA : V.heap[a]? = _ := (bV.block a hlt).trans hR
  have kA : V.cell? ⟨a, 1, none⟩ = some (.bool false) := by simp [World.cell?, rA]
  have hW2 : WldR V S P clock tr As := by
    obtain ⟨v, h1, h2⟩ := hW
    exact ⟨v, (bV.block S (Array.getElem?_eq_some_iff.1 h1).1).trans h1, own_at h2 fun g hg => bV.block g (h2.lt g hg).2⟩
  have cA := sat_any hW2 hA ha
  have H := Lib.hid (And.intro bV hS)
  clear hW hW2 hR rA rV bV hS
  go_enter Tryz.func76, Tryz.ntmps76
  go_wp2_with (first
    | (go_at_call 82; refine cA.mono ?_; rintro e w1 ⟨rfl, hw⟩; subst w1)
    | (go_at_call 104; refine (H.out.2 _ H.out.1).mono ?_; rintro e w1 ⟨r, rfl, hq⟩; have HQ := Lib.hid hq; clear hq))
  go_ret
  exact ⟨r, rfl, HQ.out⟩
/-- an event is stored into a block -/
def putC (V : World) (R : Nat) (q0 q1 q2 k p n v u : Int) (b : Value) (av : Int) (ad : Bool) (r : Value) : World := (((((((((((V.setCell ⟨R, 0, none⟩ (.int .i64 q0)).setCell ⟨R, 1, none⟩ (.int .i64 q1)).setCell ⟨R, 2, none⟩ (.int .i64 q2)).setCell ⟨R, 3, none⟩ (.int .i64 k)).setCell ⟨R, 4, none⟩ (.int .i64 p)).setCell ⟨R, 5, none⟩ (.int .i64 n)).setCell ⟨R, 6, none⟩ (.int .u64 v)).setCell ⟨R, 7, none⟩ (.int .u64 u)).setCell ⟨R, 8, none⟩ b).setCell ⟨R, 9, none⟩ (.int .u64 av)).setCell ⟨R, 10, none⟩ (.bool ad)).setCell ⟨R, 11, none⟩ r
theorem putC_other {V : World} {R j : Nat} {q0 q1 q2 k p n v u av : Int} {ad : Bool} {r b : Value} (h : j ≠ R) : (putC V R q0 q1 q2 k p n v u b av ad r).heap[j]? = V.heap[j]? := by
  unfold putC
  rw [set_other h, set_other h, set_other h, set_other h, set_other h, set_other h, set_other h, set_other h, set_other h, set_other h, set_other h, set_other h]
theorem putC_below {w V : World} {R m : Nat} {q0 q1 q2 k p n v u av : Int} {ad : Bool} {r b : Value} (h : Below m w V) (hR : m ≤ R) : Below m w (putC V R q0 q1 q2 k p n v u b av ad r) := by
  unfold putC
  iterate 12 (refine below_set ?_ hR)
  exact h
theorem arr12 {C : Array Value} (hC : C.size = 12) : ∃ c0 c1 c2 c3 c4 c5 c6 c7 c8 c9 c10 c11, C = #[c0, c1, c2, c3, c4, c5, c6, c7, c8, c9, c10, c11] := by
  obtain ⟨l⟩ := C
  match l, hC with
  | [c0, c1, c2, c3, c4, c5, c6, c7, c8, c9, c10, c11], _ => exact ⟨c0, c1, c2, c3, c4, c5, c6, c7, c8, c9, c10, c11, rfl⟩
theorem putC_at {V : World} {R : Nat} {q0 q1 q2 k p n v u av : Int} {ad : Bool} {r b : Value} {t : TypeId} {C : Array Value} (hC : C.size = 12) (h : V.heap[R]? = some (.cells C t)) : (putC V R q0 q1 q2 k p n v u b av ad r).heap[R]? = some (.cells (evC (.int .i64 q0) (.int .i64 q1) (.int .i64 q2) k p n v u b av ad r) t) := by
  obtain ⟨c0, c1, c2, c3, c4, c5, c6, c7, c8, c9, c10, c11, rfl⟩ := arr12 hC
  have j := set7 (set7 (set7 (set7 (set7 (set7 (set7 (set7 (set7 (set7 (set7 (set7 h 0 (.int .i64 q0)) 1 (.int .i64 q1)) 2 (.int .i64 q2)) 3 (.int .i64 k)) 4 (.int .i64 p)) 5 (.int .i64 n)) 6 (.int .u64 v)) 7 (.int .u64 u)) 8 b) 9 (.int .u64 av)) 10 (.bool ad)) 11 r
  unfold putC
  simpa [evC] using j
/-- an event's value -/
def evV (q0 q1 q2 : Value) (k p n v u : Int) (b : Value) (av : Int) (ad : Bool) (r : Value) : Value := .agg (evC q0 q1 q2 k p n v u b av ad r)
theorem cp2_at {V : World} {X : Nat} {q0 q1 q2 : Value} {k p n v u av : Int} {ad : Bool} {b r b' r' : Value} {Q : Option Obj} (r4 : V.heap[X]? = some (.cells (evC q0 q1 q2 k p n v u b av ad r) 44)) (q4 : V.heap[X + 1]? = Q) : ((V.setCell ⟨X, 8, none⟩ b').setCell ⟨X, 11, none⟩ r').heap[X]? = some (.cells (evC q0 q1 q2 k p n v u b' av ad r') 44) ∧ ((V.setCell ⟨X, 8, none⟩ b').setCell ⟨X, 11, none⟩ r').heap[X + 1]? = Q := by
  refine ⟨?_, (set_other (by omega)).trans ((set_other (by omega)).trans q4)⟩
  have := set7 (set7 r4 8 b') 11 r'
  rw [this]
  rfl
set_option maxRecDepth 100000 in
set_option maxHeartbeats 3200000 in
theorem copied_any {w : World} {q0 q1 q2 k p n v u av : Int} {ad : Bool} {xa ra : Option Addr} {xn xc rn rc : Nat}
    (hC1 : ∀ V, Below w.heap.size w V → Calls Tryz.prog 62 #[.slice xa xn xc] V fun e V' => ∃ ya yn yc, e = .returned (.slice ya yn yc) ∧ Below V.heap.size V V')
    (hC2 : ∀ V, Below w.heap.size w V → Calls Tryz.prog 62 #[.slice ra rn rc] V fun e V' => ∃ ya yn yc, e = .returned (.slice ya yn yc) ∧ Below V.heap.size V V') :
    Calls Tryz.prog 77 #[evV (.int .i64 q0) (.int .i64 q1) (.int .i64 q2) k p n v u (.slice xa xn xc) av ad (.slice ra rn rc)] w fun e w' => ∃ ya yn yc za zn zc, e = .returned (evV (.int .i64 q0) (.int .i64 q1) (.int .i64 q2) k p n v u (.slice ya yn yc) av ad (.slice za zn zc)) ∧ Below w.heap.size w w' := by
  obtain ⟨X, hX⟩ : ∃ X, w.heap.size = X := ⟨_, rfl⟩
  obtain ⟨V1, hV1⟩ : ∃ V, w.alloc (.cells (evC (.int .i64 q0) (.int .i64 q1) (.int .i64 q2) k p n v u (.slice xa xn xc) av ad (.slice ra rn rc)) 44) = V := ⟨_, rfl⟩
  obtain ⟨V2, hV2⟩ : ∃ V, V1.alloc (.cells (evC (.int .i64 0) (.int .i64 0) (.int .i64 0) 0 0 0 0 0 (.slice none 0 0) 0 false (.slice none 0 0)) 44) = V := ⟨_, rfl⟩
  obtain ⟨b1, r1, s1⟩ := at_new hV1
  obtain ⟨b2, r2, s2⟩ := at_new hV2
  rw [hX] at r1 s1
  rw [s1] at r2 s2
  have r1' := (b2.block X (by omega)).trans r1
  have b12 : Below w.heap.size w V2 := b1.trans (b2.mono (by omega))
  obtain ⟨f0, f1, f2, f3, f4, f5, f6, f7, f8, f9, f10, f11, fz⟩ := blk12 r1'
  have H := Lib.hid (And.intro hC1 (And.intro hC2 (And.intro b12 (And.intro r1' r2))))
  unfold evV evC
  dsimp only [evC] at hV1 hV2
  clear hC1 hC2 b12 r1' r2 fz
  go_enter Tryz.func77, Tryz.ntmps77
  go_wp2_with fail
  go_region_with (go_at_call 62
                  first
                  | (refine (H.out.1 _ H.out.2.2.1.drew).mono ?_
                     rintro e w3 ⟨ya, yn, yc, rfl, hB⟩
                     have hXl := (Array.getElem?_eq_some_iff.1 H.out.2.2.2.1).1
                     have hRl := (Array.getElem?_eq_some_iff.1 H.out.2.2.2.2).1
                     have r3 := (hB.block X hXl).trans H.out.2.2.2.1
                     have q3 := (hB.block (X + 1) hRl).trans H.out.2.2.2.2
                     have B3 : Below w.heap.size w w3 := H.out.2.2.1.drew.trans (hB.mono H.out.2.2.1.drew.size)
                     have H3 := Lib.hid (And.intro B3 (And.intro r3 q3))
                     clear f0 f1 f2 f3 f4 f5 f6 f7 f8 f9 f10 f11
                     obtain ⟨f0, f1, f2, f3, f4, f5, f6, f7, f8, f9, f10, f11, -⟩ := blk12 r3
                     clear hXl hRl r3 q3 B3 hB)
                  | (refine (H.out.2.1 _ H3.out.1).mono ?_
                     rintro e w4 ⟨za, zn, zc, rfl, hB⟩
                     have hXl := (Array.getElem?_eq_some_iff.1 H3.out.2.1).1
                     have hRl := (Array.getElem?_eq_some_iff.1 H3.out.2.2).1
                     have r4 := (hB.block X hXl).trans H3.out.2.1
                     have q4 := (hB.block (X + 1) hRl).trans H3.out.2.2
                     have B4 : Below w.heap.size w w4 := H3.out.1.trans (hB.mono H3.out.1.size)
                     clear f0 f1 f2 f3 f4 f5 f6 f7 f8 f9 f10 f11
                     obtain ⟨f0, f1, f2, f3, f4, f5, f6, f7, f8, f9, f10, f11, fz⟩ := blk12 r4
                     have fz8 := fz 8 (by decide)
                     have fz11 := fz 11 (by decide)
                     obtain ⟨W5, hW5⟩ : ∃ V, (w4.setCell ⟨X, 8, none⟩ (.slice ya yn yc)).setCell ⟨X, 11, none⟩ (.slice za zn zc) = V := ⟨_, rfl⟩
                     obtain ⟨r5, q5⟩ := hW5 ▸ cp2_at (b' := .slice ya yn yc) (r' := .slice za zn zc) r4 q4
                     have B5 : Below w.heap.size w W5 := hW5 ▸ below_set (below_set B4 (by omega)) (by omega)
                     have H5 := Lib.hid (And.intro B5 (And.intro r5 q5))
                     clear r4 q4 B4 hB fz hXl hRl r5 q5 B5 H3))
  all_goals (
    obtain ⟨f0, f1, f2, f3, f4, f5, f6, f7, f8, f9, f10, f11, -⟩ := blk12 H5.out.2.1
    obtain ⟨i0, i1, i2, i3, i4, i5, i6, i7, i8, i9, i10, i11, iz⟩ := blk12 H5.out.2.2
    have iz0 := iz 0 (by decide)
    have iz1 := iz 1 (by decide)
    have iz2 := iz 2 (by decide)
    have iz3 := iz 3 (by decide)
    have iz4 := iz 4 (by decide)
    have iz5 := iz 5 (by decide)
    have iz6 := iz 6 (by decide)
    have iz7 := iz 7 (by decide)
    have iz8 := iz 8 (by decide)
    have iz9 := iz 9 (by decide)
    have iz10 := iz 10 (by decide)
    have iz11 := iz 11 (by decide)
    have h6 := putC_at (q0 := q0) (q1 := q1) (q2 := q2) (k := k) (p := p) (n := n) (v := v) (u := u) (b := .slice ya yn yc) (av := av) (ad := ad) (r := .slice za zn zc) rfl H5.out.2.2
    have b6 := putC_below (q0 := q0) (q1 := q1) (q2 := q2) (k := k) (p := p) (n := n) (v := v) (u := u) (b := .slice ya yn yc) (av := av) (ad := ad) (r := .slice za zn zc) H5.out.1 (show w.heap.size ≤ X + 1 by omega)
    obtain ⟨W6, hW6⟩ : ∃ V, putC W5 (X + 1) q0 q1 q2 k p n v u (.slice ya yn yc) av ad (.slice za zn zc) = V := ⟨_, rfl⟩
    rw [hW6] at h6 b6
    have H6 := Lib.hid (And.intro b6 h6)
    obtain ⟨k0, k1, k2, k3, k4, k5, k6, k7, k8, k9, k10, k11, -⟩ := blk12 h6
    unfold putC at hW6
    clear h6 b6 iz fz8 fz11
    go_wp2
    refine bodyPost_ret (by simp [results, Tryz.results77, go_sem, k0, k1, k2, k3, k4, k5, k6, k7, k8, k9, k10, k11]) rfl ⟨ya, yn, yc, za, zn, zc, rfl, H6.out.1⟩)
end Go.Proofs.YtpbhfckefmboaaaGreatDoor.Ba
