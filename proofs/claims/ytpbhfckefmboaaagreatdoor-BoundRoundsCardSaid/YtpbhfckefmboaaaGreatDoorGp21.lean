/- WwD, WwG, WwI, WwJ: in one text. -/
import Derived.Test.YtpbhfckefmboaaaGreatDoorGp20
import Derived.Deep.RegionWith
import Derived.Maps.AppendAt
import Derived.Deep.RegionLaw
import Derived.OwnWalk
set_option linter.unusedVariables false
set_option linter.unusedSimpArgs false
set_option linter.unusedSectionVars false
namespace Go.Proofs.YtpbhfckefmboaaaGreatDoor.Sy
open Go Go.RowKit Go.Lib Go.AS Go.Base Go.Pr Go.Proofs.YtpbhfckefmboaaaGreatDoor.Ba
/-- acts that are left: where a slice says, in blocks of some kind -/
def OpsAt (W : World) (K : Nat → Prop) (v : Value) (ops : List OpN) : Prop := ∃ la ln lc, v = .slice la ln lc ∧ ln = ops.length ∧ ln ≤ lc ∧ ∀ (j : Nat) (o : OpN), ops[j]? = some o → ∃ g go ba bc, la = some ⟨g, go, none⟩ ∧ K g ∧ W.cell? ⟨g, go + 2 * j, none⟩ = some (.int .i64 o.kind) ∧ W.cell? ⟨g, go + 2 * j + 1, none⟩ = some (.slice ba o.data.length bc) ∧ RowK W [] noTau K ba o.data
theorem OpsAt.move {W W' : World} {K K' : Nat → Prop} {v : Value} {ops : List OpN} (h : OpsAt W K v ops) (hkk : ∀ b, K b → b < W.heap.size → W'.heap[b]? = W.heap[b]?) (hK : ∀ b, K b → b < W.heap.size → K' b) : OpsAt W' K' v ops := by
  obtain ⟨la, ln, lc, e, h1, h2, h3⟩ := h
  refine ⟨la, ln, lc, e, h1, h2, fun j o hj => ?_⟩
  obtain ⟨g, go, ba, bc, e1, hg, c1, c2, hr⟩ := h3 j o hj
  have hl := World.block_lt_of_cell? W _ c1
  refine ⟨g, go, ba, bc, e1, hK g hg hl, (cell_same (hkk g hg hl)).trans c1, (cell_same (hkk g hg hl)).trans c2, fun i x hx => ?_⟩
  obtain ⟨bb, bo, e2, hn, hb, hc⟩ := hr i x hx
  have hl2 := World.block_lt_of_cell? W _ hc
  exact ⟨bb, bo, e2, hn, hK bb hb hl2, (cell_same (hkk bb hb hl2)).trans hc⟩
def sntC (s : Snt) : List Value := [.int .i64 s.pos, .int .i64 s.e, .int .i64 s.tries, .int .i64 s.s.part, .int .i32 s.s.term, .int .i64 s.s.off, .int .i64 s.s.size, .bool s.has]
theorem own_at {w w' : World} {e : TypeId} {size n : Nat} {v : Value} {xs : List Value} (h : w.ownsRow 0 e size v n xs) (hk : ∀ g, v.ownBlock = some g → w'.heap[g]? = w.heap[g]?) : w'.ownsRow 0 e size v n xs := by
  refine ⟨h.1, ?_⟩
  rcases h.2 with h1 | ⟨g, cap, cur, rfl, hb, hg, r⟩
  · exact .inl h1
  · exact .inr ⟨g, cap, cur, rfl, hb, (hk g rfl).trans hg, r⟩
/-- the rows beside a writer's cells and its act -/
structure RX (W : World) (b : Nat) (K OA : Nat → Prop) (left dn : Value) (ops : List OpN) (out : List Snt) : Prop where
  left : OpsAt W (fun k => K k ∧ k ≠ b ∧ ¬ OA k ∧ dn.ownBlock ≠ some k) left ops
  row : W.ownsRow 0 71 8 dn out.length (out.flatMap sntC)
  own : ∀ k, dn.ownBlock = some k → K k ∧ k ≠ b ∧ ¬ OA k
structure WX (l : Lg) (q : Nat) (W : World) (b : Nat) (K : Nat → Prop) (g : Bool) (p : Pr An Ot) (ops : List OpN) (tries n : Int) (out : List Snt) : Prop where
  lt : ∀ k, K k → k < W.heap.size
  kb : K b
  ex : ∃ now left dn OA, W.heap[b]? = some (.cells (wrC b now g l left tries n dn) 142) ∧ (g = true → AX l q p now W OA) ∧ (∀ k, OA k → K k ∧ k ≠ b) ∧ RX W b K OA left dn ops out
section
variable {l : Lg} {q q' : Nat} {W W' : World} {b : Nat} {K : Nat → Prop} {p p' : Pr An Ot} {ops : List OpN} {tries n : Int} {out : List Snt} {now left dn : Value} {OA O' : Nat → Prop}
theorem RX.acted (h : RX W b K OA left dn ops out) (hlt : ∀ k, K k → k < W.heap.size) (hf : Frm OA W W') (hO : ∀ k, O' k → OA k ∨ W.heap.size ≤ k) : RX W' b (fun k => K k ∨ O' k) O' left dn ops out := by
  have hn : ∀ k, k < W.heap.size → ¬ OA k → ¬ O' k := fun k hk hn ho => by
    rcases hO k ho with h1 | h1
    · exact hn h1
    · omega
  refine ⟨h.left.move (fun k hk hl => hf.block k hl hk.2.2.1) fun k hk hl => ⟨.inl hk.1, hk.2.1, hn k hl hk.2.2.1, hk.2.2.2⟩, own_at h.row fun g hg => ?_, fun k hk => ?_⟩
  · obtain ⟨h1, h2, h3⟩ := h.own g hg
    exact hf.block g (hlt g h1) h3
  · obtain ⟨h1, h2, h3⟩ := h.own k hk
    exact ⟨.inl h1, h2, hn k (hlt k h1) h3⟩
/-- what a call leaves: the writer, what it owns, what it left as it was -/
structure WK (K : Nat → Prop) (W W' : World) (K' : Nat → Prop) : Prop where
  frm : Frm K W W'
  new : ∀ k, K' k → K k ∨ W.heap.size ≤ k
theorem Frm.wide {O O2 : Nat → Prop} {w w' : World} (h : Frm O w w') (hO : ∀ k, O k → O2 k) : Frm O2 w w' := ⟨h.os, h.tape, h.output, h.size, fun k hk hn => h.block k hk fun ho => hn (hO k ho)⟩
theorem Frm.of_below {O : Nat → Prop} {w w' : World} (h : Below w.heap.size w w') : Frm O w w' := ⟨h.os, h.tape, h.output, h.size, fun k hk _ => h.block k hk⟩
theorem WK.trans {K K1 K2 : Nat → Prop} {W W1 W2 : World} (h : WK K W W1 K1) (k : WK K1 W1 W2 K2) : WK K W W2 K2 :=
  ⟨⟨k.frm.os.trans h.frm.os, k.frm.tape.trans h.frm.tape, k.frm.output.trans h.frm.output, Nat.le_trans h.frm.size k.frm.size, fun x hx hn => (k.frm.block x (Nat.lt_of_lt_of_le hx h.frm.size) fun hk => by
      rcases h.new x hk with h1 | h1
      · exact hn h1
      · omega).trans (h.frm.block x hx hn)⟩,
   fun x hx => by
    rcases k.new x hx with h1 | h1
    · exact h.new x h1
    · exact .inr (Nat.le_trans h.frm.size h1)⟩
theorem WK.below {K : Nat → Prop} {W W' : World} (h : Below W.heap.size W W') : WK K W W' K := ⟨.of_below h, fun k hk => .inl hk⟩
/-- the act was called -/
theorem acted (hlt : ∀ k, K k → k < W.heap.size) (kb : K b) (hT : W.heap[b]? = some (.cells (wrC b now true l left tries n dn) 142)) (ho : ∀ k, OA k → K k ∧ k ≠ b) (hr : RX W b K OA left dn ops out) (hf : Frm OA W W') (hO : ∀ k, O' k → OA k ∨ W.heap.size ≤ k) (ha : AX l q' p' now W' O') :
    WX l q' W' b (fun k => K k ∨ O' k) true p' ops tries n out ∧ WK K W W' (fun k => K k ∨ O' k) := by
  refine ⟨⟨fun k hk => ?_, .inl kb, now, left, dn, O', (hf.block b (hlt b kb) fun h => (ho b h).2 rfl).trans hT, fun _ => ha, fun k hk => ⟨.inr hk, fun e => ?_⟩, hr.acted hlt hf hO⟩, ⟨hf.wide fun k hk => (ho k hk).1, fun k hk => ?_⟩⟩
  · rcases hk with hk | hk
    · exact Nat.lt_of_lt_of_le (hlt k hk) hf.size
    · exact ha.lt k hk
  · subst e
    rcases hO k hk with h1 | h1
    · exact (ho k h1).2 rfl
    · have := hlt k kb; omega
  · rcases hk with hk | hk
    · exact .inl hk
    · exact (hO k hk).imp (fun h => (ho k h).1) id
/-- a writer is moved with its blocks -/
theorem WX.move {g : Bool} (h : WX l q W b K g p ops tries n out) (hs : W.heap.size ≤ W'.heap.size) (hkk : ∀ k, K k → W'.heap[k]? = W.heap[k]?) : WX l q W' b K g p ops tries n out := by
  obtain ⟨lt, kb, now, left, dn, OA, hT, hA, hO, hr⟩ := h
  refine ⟨fun k hk => Nat.lt_of_lt_of_le (lt k hk) hs, kb, now, left, dn, OA, (hkk b kb).trans hT, fun hg => (hA hg).move hs fun k hk => hkk k (hO k hk).1, hO, ⟨hr.left.move (fun k hk _ => hkk k hk.1) fun k hk _ => hk, own_at hr.row fun g hg => hkk g (hr.own g hg).1, hr.own⟩⟩
end
end Go.Proofs.YtpbhfckefmboaaaGreatDoor.Sy
namespace Go.Proofs.YtpbhfckefmboaaaGreatDoor.Sy
open Go Go.RowKit Go.Lib Go.AS Go.Base Go.Pr Go.Proofs.YtpbhfckefmboaaaGreatDoor.Ba
/-- a writer between two acts -/
structure WI (l : Lg) (W : World) (b : Nat) (K : Nat → Prop) (g : Bool) (now : Value) (ops : List OpN) (tries n : Int) (out : List Snt) : Prop where
  lt : ∀ k, K k → k < W.heap.size
  kb : K b
  ex : ∃ left dn, W.heap[b]? = some (.cells (wrC b now g l left tries n dn) 142) ∧ RX W b K (fun _ => False) left dn ops out
section
variable {l : Lg} {W W' : World} {b : Nat} {K : Nat → Prop} {g : Bool} {now left dn : Value} {ops : List OpN} {tries n : Int} {out : List Snt}
theorem RX.moved {W W' : World} {K OA : Nat → Prop} (h : RX W b K OA left dn ops out) (hlt : ∀ k, K k → k < W.heap.size) (hkk : ∀ k, K k → k ≠ b → W'.heap[k]? = W.heap[k]?) : RX W' b K OA left dn ops out :=
  ⟨h.left.move (fun k hk _ => hkk k hk.1 hk.2.1) fun k hk _ => hk, own_at h.row fun g hg => hkk g (h.own g hg).1 (h.own g hg).2.1, h.own⟩
theorem WI.moved (h : WI l W b K g now ops tries n out) (hs : W.heap.size ≤ W'.heap.size) (hkk : ∀ k, K k → W'.heap[k]? = W.heap[k]?) : WI l W' b K g now ops tries n out := by
  obtain ⟨lt, kb, left, dn, hT, hr⟩ := h
  exact ⟨fun k hk => Nat.lt_of_lt_of_le (lt k hk) hs, kb, left, dn, (hkk b kb).trans hT, hr.moved lt fun k hk _ => hkk k hk⟩
/-- a cell of the writer's was stored into -/
theorem wi_set {W1 : World} (lt : ∀ k, K k → k < W.heap.size) (kb : K b) (hT : W1.heap[b]? = some (.cells (wrC b now g l left tries n dn) 142)) (hr : RX W b K (fun _ => False) left dn ops out) (ho : Only b W W1) {W' : World} (hb : Below W1.heap.size W1 W') :
    WI l W' b K g now ops tries n out ∧ Frm K W W' := by
  have hs : W.heap.size ≤ W'.heap.size := Nat.le_trans ho.size hb.size
  have hk : ∀ k, k < W.heap.size → k ≠ b → W'.heap[k]? = W.heap[k]? := fun k hk hn => (hb.block k (Nat.lt_of_lt_of_le hk ho.size)).trans (ho.block k hk hn)
  refine ⟨⟨fun k hk => Nat.lt_of_lt_of_le (lt k hk) hs, kb, left, dn, (hb.block b (Nat.lt_of_lt_of_le (lt b kb) ho.size)).trans hT, hr.moved lt fun k h1 h2 => hk k (lt k h1) h2⟩, ⟨?_, ?_, ?_, hs, fun k h1 h2 => hk k h1 fun e => h2 (e ▸ kb)⟩⟩
  · exact hb.os.trans ho.os
  · exact hb.tape.trans ho.tape
  · exact hb.output.trans ho.output
theorem more_nil (h : WI l W b K g now [] tries n out) :
    Calls Tryz.prog 63 #[.pointer (some ⟨b, 0, none⟩)] W fun e w' => e = .returned (.tuple #[.nilIface, .bool false]) ∧ w' = W := by
  obtain ⟨lt, kb, left, dn, hT, hr⟩ := h
  obtain ⟨la, ln, lc, rfl, h1, h2, h3⟩ := hr.left
  unfold wrC at hT
  obtain ⟨c0, c1, c2, c3, c4, c5, c6, c7, c8, c9, c10, c11, c12, c13, c14, -⟩ := blk15 hT
  have hl : ((ln : Nat) : Int) = 0 := by rw [h1]; rfl
  clear hr h3 hT
  go_enter Tryz.func63, Tryz.ntmps63
  go_wp2
  go_ret2
  exact ⟨rfl, rfl⟩
theorem more_offer (hw : l.ok) {o : OpN} (ho : o.kind = 0) (hd : (∀ x ∈ o.data, x < 256) ∧ o.data.length ≤ 1000) (hn : 0 ≤ n ∧ n ≤ 3000) (hln : ops.length ≤ 1000) (h : WI l W b K g now (o :: ops) tries n out) :
    Calls Tryz.prog 63 #[.pointer (some ⟨b, 0, none⟩)] W fun e w' => ∃ act OA, e = .returned (.tuple #[act, .bool true]) ∧ WI l w' b K g now (o :: ops) tries (n + 1) out ∧ Frm K W w' ∧ (∀ q, AX l q (onceT (lgN l) o) act w' OA) ∧ ∀ k, OA k → W.heap.size ≤ k := by
  obtain ⟨lt, kb, left, dn, hT, hr⟩ := h
  obtain ⟨la, ln, lc, rfl, h1, h2, h3⟩ := hr.left
  obtain ⟨gb, go, ba, bc, rfl, hg, g0, g1, hrow⟩ := h3 0 o rfl
  have hbW := lt b kb
  obtain ⟨W1, hW1⟩ : ∃ W1, W.setCell ⟨b, 13, none⟩ (.int .i64 (n + 1)) = W1 := ⟨_, rfl⟩
  have o1 : Only b W W1 := by rw [← hW1]; exact Only.set _ _ _
  have hT1 : W1.heap[b]? = some (.cells (wrC b now g l (.slice (some ⟨gb, go, none⟩) ln lc) tries (n + 1) dn) 142) := by rw [← hW1]; exact setc hT 13 _
  have hgl : gb < W.heap.size := World.block_lt_of_cell? W _ g0
  have gk : W1.heap[gb]? = W.heap[gb]? := o1.block gb hgl hg.2.1
  obtain ⟨X, hX⟩ : ∃ X, W1.heap.size = X := ⟨_, rfl⟩
  obtain ⟨W2, hW2⟩ : ∃ W2, W1.alloc (.cells #[.int .i64 o.kind, .slice ba o.data.length bc] 53) = W2 := ⟨_, rfl⟩
  have b2 : Below X W1 W2 := by rw [← hW2, ← hX]; exact (Below.refl _ _).alloc (Nat.le_refl _) _
  have r2 : W2.heap[X]? = some (.cells #[.int .i64 o.kind, .slice ba o.data.length bc] 53) := by rw [← hW2, ← hX]; exact heap_new _ _
  have s0 := o1.size
  have hrw : ∀ V, Below W2.heap.size W2 V → ∀ w', Below V.heap.size V w' → RowAt w' ba o.data := fun V hV w' hb j x hx => by
    obtain ⟨bb, bo, e, _, hk, hc⟩ := hrow j x hx
    have hl : bb < W.heap.size := World.block_lt_of_cell? W _ hc
    have := b2.size
    have := hV.size
    exact ⟨bb, bo, e, (cell_same ((hb.block bb (by omega)).trans ((hV.block bb (by omega)).trans ((b2.block bb (by omega)).trans (o1.block bb hl hk.2.1))))).trans hc⟩
  have c : ∀ V, Below W2.heap.size W2 V → Calls Tryz.prog 93 #[.agg #[.int .i64 l.base, .int .i64 l.term, .int .i64 l.mtu, .int .i64 l.subs, .int .i32 l.ini, .int .i32 l.ses, .int .i32 l.str], .slice ba o.data.length bc] V fun e w' => ∃ rt, e = .returned (ptrV rt) ∧ Below W2.heap.size W2 w' ∧ (∀ q, AX l q (offerT (lgN l) o.data) (.iface 184 (ptrV rt)) w' (Made V w')) ∧ ∀ k, Made V w' k → W.heap.size ≤ k := fun V hV => by
    refine (offer_made hw hd.1 hd.2 (by have := b2.size; have := hV.size; omega) (hrw V hV)).mono ?_
    rintro e w' ⟨rt, rfl, hb, hax⟩
    refine ⟨rt, rfl, hV.trans (hb.mono hV.size), hax, fun k hk => ?_⟩
    have := b2.size
    have := hV.size
    rcases hk with hk | hk
    · exact absurd hk id
    · omega
  rw [ho] at hW2 r2
  have HT := Lib.hid (And.intro lt (And.intro kb (And.intro hT1 (And.intro hr (And.intro o1 b2)))))
  obtain ⟨f0, f1, f2, f3, f4, f5, f6, f7, f8, f9, f10, f11, f12, f13, f14, -⟩ := blk15 ((b2.block b (by omega)).trans hT1)
  unfold wrC at hT hT1
  obtain ⟨c0, c1, c2, c3, c4, c5, c6, c7, c8, c9, c10, c11, c12, c13, c14, -, -, -, -, z13, -⟩ := blk15 hT
  obtain ⟨d0, d1, d2, d3, d4, d5, d6, d7, d8, d9, d10, d11, d12, d13, d14, -⟩ := blk15 hT1
  have g0' : W.cell? ⟨gb, go, none⟩ = some (.int .i64 0) := by rw [← ho]; exact g0
  have g1' : W.cell? ⟨gb, go + 1, none⟩ = some (.slice ba o.data.length bc) := g1
  have g2 : W1.cell? ⟨gb, go, none⟩ = some (.int .i64 0) := (cell_same gk).trans g0'
  have g3 : W1.cell? ⟨gb, go + 1, none⟩ = some (.slice ba o.data.length bc) := (cell_same gk).trans g1'
  have k0 : W2.cell? ⟨X, 0, none⟩ = some (.int .i64 0) := by simp [World.cell?, r2]
  have k1 : W2.cell? ⟨X, 1, none⟩ = some (.slice ba o.data.length bc) := by simp [World.cell?, r2]
  have hl0 : ((ln : Nat) : Int) ≠ 0 := by rw [h1, List.length_cons]; omega
  have hl1 : (0 : Int) < ((ln : Nat) : Int) := by rw [h1, List.length_cons]; omega
  have w1 : wrap64 (n + 1) = n + 1 := IntWalk.wrap64_in _ (by omega)
  clear hr h3 hT hT1 o1 b2 r2 gk g0 g1 hrow hrw hg lt kb
  go_enter Tryz.func63, Tryz.ntmps63
  go_wp2_with (fail)
  go_region_with
    (go_at_call 93
     refine (c _ (Below.drew (Below.refl _ _))).mono ?_
     clear c
     rintro e w3 ⟨rt, rfl, hb3, hax⟩
     have H3 := Lib.hid (And.intro hb3 hax)
     clear hb3 hax)
  all_goals go_wp2
  all_goals go_ret2
  all_goals obtain ⟨hb3, hax, hnew⟩ := H3.out
  all_goals obtain ⟨lt, kb, hT1, hr, o1, b2⟩ := HT.out
  all_goals obtain ⟨e1, e2⟩ := wi_set lt kb hT1 hr o1 (hX.symm ▸ b2.trans (hb3.mono (by have := b2.size; omega)))
  all_goals exact ⟨_, _, rfl, e1, e2, fun q => by rw [show onceT (lgN l) o = offerT (lgN l) o.data from if_pos ho]; exact hax q, hnew⟩
end
end Go.Proofs.YtpbhfckefmboaaaGreatDoor.Sy
namespace Go.Proofs.YtpbhfckefmboaaaGreatDoor.Sy
open Go Go.RowKit Go.Lib Go.AS Go.Base Go.Pr Go.Proofs.YtpbhfckefmboaaaGreatDoor.Ba
section
variable {l : Lg} {q : Nat} {W W' : World} {b : Nat} {K OA : Nat → Prop} {g : Bool} {now left dn : Value} {ops : List OpN} {tries n : Int} {out : List Snt} {o : Ot}
theorem RX.noact {K OA : Nat → Prop} (h : RX W b K OA left dn ops out) : RX W b K (fun _ => False) left dn ops out :=
  ⟨h.left.move (fun _ _ _ => rfl) fun k hk _ => ⟨hk.1, hk.2.1, id, hk.2.2.2⟩, h.row, fun k hk => ⟨(h.own k hk).1, (h.own k hk).2.1, id⟩⟩
theorem ptr_inj {x y : Nat × Nat} (h : ptrV x = ptrV y) : x = y := by
  injection h with h
  injection h with h
  injection h with h1 h2
  obtain ⟨x1, x2⟩ := x
  obtain ⟨y1, y2⟩ := y
  simp only at h1 h2
  have : x2 = y2 := by omega
  rw [h1, this]
theorem acts136 {p : Pr An Ot} {rt : Nat × Nat} (h : AX l q p (.iface 184 (ptrV rt)) W OA) : Acts l q p (.iface 184 (ptrV rt)) W OA rt 287 288 289 := by
  obtain ⟨rt', ⟨e, h⟩ | ⟨e, h⟩ | ⟨e, h⟩⟩ := h.acts
  · injection e with _ e; obtain rfl := ptr_inj e; exact h
  · injection e with e _; cases e
  · injection e with e _; cases e
theorem acts138 {p : Pr An Ot} {rt : Nat × Nat} (h : AX l q p (.iface 186 (ptrV rt)) W OA) : Acts l q p (.iface 186 (ptrV rt)) W OA rt 291 292 293 := by
  obtain ⟨rt', ⟨e, h⟩ | ⟨e, h⟩ | ⟨e, h⟩⟩ := h.acts
  · injection e with e _; cases e
  · injection e with _ e; obtain rfl := ptr_inj e; exact h
  · injection e with e _; cases e
theorem acts140 {p : Pr An Ot} {rt : Nat × Nat} (h : AX l q p (.iface 188 (ptrV rt)) W OA) : Acts l q p (.iface 188 (ptrV rt)) W OA rt 228 297 298 := by
  obtain ⟨rt', ⟨e, h⟩ | ⟨e, h⟩ | ⟨e, h⟩⟩ := h.acts
  · injection e with e _; cases e
  · injection e with e _; cases e
  · injection e with _ e; obtain rfl := ptr_inj e; exact h
theorem grow_new {O : Nat → Prop} {w w' : World} : ∀ k, Grow O w w' k → O k ∨ w.heap.size ≤ k := fun k hk => hk.imp id fun h => h.1
end
end Go.Proofs.YtpbhfckefmboaaaGreatDoor.Sy
namespace Go.Proofs.YtpbhfckefmboaaaGreatDoor.Sy
open Go Go.RowKit Go.Lib Go.AS Go.Base Go.Pr Go.Proofs.YtpbhfckefmboaaaGreatDoor.Ba
theorem step_append_own {P : Program} {ops : Array Oper} {o : Oper} {a : Act} {w : World} {K : Act → World → Prop} {Q : Exit → Act → World → Prop} {E : Prop} (hg : o.guard = none) (s x : Operand) (t : TypeId)
    (hop : o.op = .call { callee := .builtin .append, args := #[s, x], argTypes := #[t, t] })
    (base : Nat) (e : TypeId) (i : TypeInfo) (z : Value) (size bytes : Nat) (ht : P.underlying t = some (.slice e)) (hi : P.info? e = some i) (hz : i.zero = some z)
    (hsize : i.size = size) (hby : i.bytes = bytes) (hzs : z.cells.size = size) (hsz : 0 < size)
    (v : Value) (n : Nat) (xs : List Value) (hs : a.eval s = v) (hown : w.ownsRow base e size v n xs)
    (ad : Addr) (m c : Nat) (news : List Value) (hx : a.eval x = .slice (some ad) m c) (hl : news.length = m * size) (hnews : ∀ j u, news[j]? = some u → w.cell? (ad.add j) = some u) (h1 : ∀ u ∈ news, u.oneCell' = true)
    (h63 : n + m ≤ maxLen) (hbytes : (n + m) * bytes ≤ 140737488355328) (hbase : base ≤ w.heap.size)
    (h : ∀ v' w', w'.ownsRow base e size v' (n + m) (xs ++ news) → w.grownBy w' v.ownBlock → (v'.ownBlock = v.ownBlock ∨ v'.ownBlock = some w.heap.size) → K (a.put o.dst v') w') :
    if Region.wanted o (yielded ops a.tmps) = true then Oper.wp P o a w K Q else E := by
  have hw : Region.wanted o (yielded ops a.tmps) = true := by simp [Region.wanted, hg]
  rw [if_pos hw]
  obtain ⟨v', w', hrun, r1, r2, _, r3⟩ := run_append_own_at (P := P) (w := w) base t o.type e i z size bytes ht hi hz hsize hby hzs hsz v n xs hown ad m c news hl hnews h1 h63 hbytes hbase
  unfold Oper.wp
  simp [execOp, hop, resolve, invoke, builtin, hs, hx, hrun, Result.andThen]
  exact h v' w' r1 r2 r3
theorem own_slice {w : World} {base : Nat} {e : TypeId} {size : Nat} {v : Value} {n : Nat} {xs : List Value} (h : w.ownsRow base e size v n xs) : ∃ ca cc, v = .slice ca n cc := by
  rcases h.2 with ⟨rfl, rfl⟩ | ⟨g, cap, cur, rfl, _⟩
  · exact ⟨_, _, rfl⟩
  · exact ⟨_, _, rfl⟩
theorem Tryz_info71 : (Tryz.prog.info? 71).map (fun i => (i.zero, i.size, i.bytes)) = some (some (.agg #[.int .i64 0, .int .i64 0, .int .i64 0, .int .i64 0, .int .i32 0, .int .i64 0, .int .i64 0, .bool false]), 8, 64) := by kernel_rfl
theorem blk8 {w : World} {b : Nat} {t : TypeId} {v0 v1 v2 v3 v4 v5 v6 v7 : Value} (h : w.heap[b]? = some (.cells #[v0, v1, v2, v3, v4, v5, v6, v7] t (0, 0))) : w.cell? ⟨b, 0, none⟩ = some v0 ∧ w.cell? ⟨b, 1, none⟩ = some v1 ∧ w.cell? ⟨b, 2, none⟩ = some v2 ∧ w.cell? ⟨b, 3, none⟩ = some v3 ∧ w.cell? ⟨b, 4, none⟩ = some v4 ∧ w.cell? ⟨b, 5, none⟩ = some v5 ∧ w.cell? ⟨b, 6, none⟩ = some v6 ∧ w.cell? ⟨b, 7, none⟩ = some v7 ∧ w.frozen? ⟨b, 0, none⟩ = false ∧ w.frozen? ⟨b, 1, none⟩ = false ∧ w.frozen? ⟨b, 2, none⟩ = false ∧ w.frozen? ⟨b, 3, none⟩ = false ∧ w.frozen? ⟨b, 4, none⟩ = false ∧ w.frozen? ⟨b, 5, none⟩ = false ∧ w.frozen? ⟨b, 6, none⟩ = false ∧ w.frozen? ⟨b, 7, none⟩ = false := by
  refine ⟨?_, ?_, ?_, ?_, ?_, ?_, ?_, ?_, ?_, ?_, ?_, ?_, ?_, ?_, ?_, ?_⟩ <;> simp [World.cell?, World.frozen?, h]
section
variable {l : Lg} {q : Nat} {W W' : World} {b : Nat} {K OA : Nat → Prop} {g : Bool} {now left dn : Value} {ops : List OpN} {tries n : Int} {out : List Snt} {o : Ot}
theorem ended_end {w1 V w2 W3 D w5 W6 : World} {X : Nat} {K1 K2 O2 : Nat → Prop} {v5 left' : Value} {s : Snt} {op1 : OpN} {gb go lc : Nat} (hwk : WK K W w1 K1) (kb : K b) (hX : w1.heap.size = X) (bV : Below X w1 V) (hwk2 : WK K1 V w2 K2) (lt2 : ∀ k, K2 k → k < w2.heap.size) (kb2 : K2 b)
    (hr : RX w2 b K2 O2 (.slice (some ⟨gb, go, none⟩) (ops.length + 1) lc) dn (op1 :: ops) out) (hX2 : ∀ k, K2 k → k ≠ X) (ltW : ∀ k, K k → k < W.heap.size) (o3 : Only X w2 W3) (hD : Below W3.heap.size W3 D) (r1 : w5.ownsRow 0 71 8 v5 (out.length + 1) (out.flatMap sntC ++ sntC s)) (r2 : D.grownBy w5 dn.ownBlock) (r3 : v5.ownBlock = dn.ownBlock ∨ v5.ownBlock = some D.heap.size)
    (o6 : Only b w5 W6) (h6 : W6.heap[b]? = some (.cells (wrC b now true l left' tries 0 v5) 142)) (hl : ∃ la lc', left' = .slice la ops.length lc' ∧ ops.length ≤ lc' ∧ (ops ≠ [] → la = some ⟨gb, go + 2, none⟩)) :
    ∃ K', WK K W W6 K' ∧ WI l W6 b K' true now ops tries 0 (out ++ [s]) := by
  have t1 := hwk.frm.size
  have t2 := bV.size
  have t3 := hwk2.frm.size
  have t4 := o3.size
  have t5 := hD.size
  have t6 := r2.size
  have t7 := o6.size
  have hbD : b ≠ D.heap.size := by have := lt2 b kb2; omega
  have hown : ∀ k, dn.ownBlock = some k → K2 k := fun k hk => (hr.own k hk).1
  -- what lies as it lay
  have keep : ∀ k, k < w2.heap.size → k ≠ b → k ≠ X → dn.ownBlock ≠ some k → W6.heap[k]? = w2.heap[k]? := fun k h1 h2 h3 h4 =>
    (o6.block k (by omega) h2).trans ((r2.block k (by omega) (fun e => h4 e.symm)).trans ((hD.block k (by omega)).trans (o3.block k h1 h3)))
  have hv5 : ∀ k, v5.ownBlock = some k → dn.ownBlock = some k ∨ k = D.heap.size := fun k hk => by
    rcases r3 with h | h
    · exact .inl (h.symm.trans hk)
    · rw [hk] at h; injection h with h; exact .inr h
  refine ⟨fun k => K2 k ∨ v5.ownBlock = some k, ⟨⟨?_, ?_, ?_, by omega, fun k h1 h2 => ?_⟩, fun k hk => ?_⟩, ⟨fun k hk => ?_, .inl kb2, left', v5, h6, ⟨?_, ?_, fun k hk => ⟨.inr hk, fun e => ?_, id⟩⟩⟩⟩
  · exact o6.os.trans (r2.os.trans (hD.os.trans (o3.os.trans (hwk2.frm.os.trans (bV.os.trans hwk.frm.os)))))
  · exact o6.tape.trans (r2.tape.trans (hD.tape.trans (o3.tape.trans (hwk2.frm.tape.trans (bV.tape.trans hwk.frm.tape)))))
  · exact o6.output.trans (r2.output.trans (hD.output.trans (o3.output.trans (hwk2.frm.output.trans (bV.output.trans hwk.frm.output)))))
  · have n1 : ¬ K1 k := fun h => by
      rcases hwk.new k h with h | h
      · exact h2 h
      · omega
    have n2 : ¬ K2 k := fun h => by
      rcases hwk2.new k h with h | h
      · exact n1 h
      · omega
    exact (keep k (by omega) (fun e => h2 (e ▸ kb)) (by omega) fun e => n2 (hown k e)).trans ((hwk2.frm.block k (by omega) n1).trans ((bV.block k (by omega)).trans (hwk.frm.block k h1 h2)))
  · have : ∀ k, K2 k → K k ∨ W.heap.size ≤ k := fun k h => by
      rcases hwk2.new k h with h | h
      · exact hwk.new k h
      · exact .inr (by omega)
    rcases hk with hk | hk
    · exact this k hk
    · rcases hv5 k hk with h | h
      · exact this k (hown k h)
      · exact .inr (by omega)
  · rcases hk with hk | hk
    · have := lt2 k hk; omega
    · have := (r1.lt k hk).2; omega
  · obtain ⟨la, ln, lc0, e0, e1, e2, h3⟩ := hr.left
    obtain ⟨la', lc', rfl, hlc, hla⟩ := hl
    injection e0 with e0 _ _
    subst e0
    refine ⟨la', ops.length, lc', rfl, rfl, hlc, fun j o hj => ?_⟩
    obtain ⟨g, g0, ba, bc, hg, hk, c1, c2, hrow⟩ := h3 (j + 1) o hj
    have hg2 : gb = g ∧ go = g0 := by injection hg with hg; injection hg with h1 h2 _; exact ⟨h1, h2⟩
    obtain ⟨rfl, rfl⟩ := hg2
    have hne : ops ≠ [] := fun e => by rw [e] at hj; cases hj
    have hkk : ∀ k, (K2 k ∧ k ≠ b ∧ ¬ O2 k ∧ dn.ownBlock ≠ some k) → k < w2.heap.size → W6.heap[k]? = w2.heap[k]? := fun k hk h1 => keep k h1 hk.2.1 (hX2 k hk.1) hk.2.2.2
    have hKK : ∀ k, (K2 k ∧ k ≠ b ∧ ¬ O2 k ∧ dn.ownBlock ≠ some k) → k < w2.heap.size → (K2 k ∨ v5.ownBlock = some k) ∧ k ≠ b ∧ ¬ False ∧ v5.ownBlock ≠ some k := fun k hk h1 => ⟨.inl hk.1, hk.2.1, id, fun e => by
      rcases hv5 k e with h | h
      · exact hk.2.2.2 h
      · omega⟩
    have l1 : gb < w2.heap.size := World.block_lt_of_cell? w2 _ c1
    refine ⟨gb, go + 2, ba, bc, hla hne, hKK gb hk l1, ?_, ?_, fun i x hx => ?_⟩
    · rw [show go + 2 + 2 * j = go + 2 * (j + 1) by omega]; exact (cell_same (hkk gb hk l1)).trans c1
    · rw [show go + 2 + 2 * j + 1 = go + 2 * (j + 1) + 1 by omega]; exact (cell_same (hkk gb hk l1)).trans c2
    · obtain ⟨bb, bo, e2, hn, hb, hc⟩ := hrow i x hx
      have l2 : bb < w2.heap.size := World.block_lt_of_cell? w2 _ hc
      exact ⟨bb, bo, e2, hn, hKK bb hb l2, (cell_same (hkk bb hb l2)).trans hc⟩
  · rw [List.flatMap_append, List.length_append]
    simp only [List.flatMap_cons, List.flatMap_nil, List.append_nil, List.length_cons, List.length_nil]
    exact own_at r1 fun g hg => o6.block g (r1.lt g hg).2 fun e => by
      subst e
      rcases hv5 g hg with h | h
      · exact (hr.own g h).2.1 rfl
      · exact hbD h
  · subst e
    rcases hv5 k hk with h | h
    · exact (hr.own k h).2.1 rfl
    · exact hbD h
end
end Go.Proofs.YtpbhfckefmboaaaGreatDoor.Sy
