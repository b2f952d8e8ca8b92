/- The search's state; may a call be the next one? -/
import Derived.Test.YtkbbpjknakajeaaTellsA
namespace Go.Proofs.Ytkbbpjknakajeaa.Li
open Go.RowKit Go.Shelf Go.Sort
/-- what the search stands on: the calls, which of them are used, the row so far -/
structure FS (w : World) (B fb ub bl ol cl : Nat) (l : Array QOp) (v : Value) (p : List Int) : Prop where
  c0 : w.cell? ⟨fb, 0, none⟩ = some (.slice (some ⟨bl, ol, none⟩) l.size cl)
  c1 : w.cell? ⟨fb, 1, none⟩ = some (.slice (some ⟨ub, 0, none⟩) l.size l.size)
  c2 : w.cell? ⟨fb, 2, none⟩ = some v
  f2 : w.frozen? ⟨fb, 2, none⟩ = false
  u : ∀ i : Nat, i < l.size → w.cell? ⟨ub, i, none⟩ = some (.bool (decide ((i : Int) ∈ p)))
  fu : ∀ i : Nat, w.frozen? ⟨ub, i, none⟩ = false
  row : w.ownsRow B 3 1 v p.length (p.map (Value.int .i64))
  q : ReadsQ w bl ol l
  fu_ne : fb ≠ ub
  bB : bl < B
  Bf : B ≤ fb
  Bu : B ≤ ub
  ov : ∀ g, v.ownBlock = some g → g ≠ fb ∧ g ≠ ub
  bsz : bl < w.heap.size
  fsz : fb < w.heap.size
  usz : ub < w.heap.size
theorem FS.grow {w w' : World} {B fb ub bl ol cl : Nat} {l : Array QOp} {v : Value} {p : List Int} (h : FS w B fb ub bl ol cl l v p) (k : Below w.heap.size w w') : FS w' B fb ub bl ol cl l v p :=
  { h with
    c0 := (k.cell (p := ⟨fb, 0, none⟩) h.fsz).trans h.c0
    c1 := (k.cell (p := ⟨fb, 1, none⟩) h.fsz).trans h.c1
    c2 := (k.cell (p := ⟨fb, 2, none⟩) h.fsz).trans h.c2
    f2 := (k.frozen (p := ⟨fb, 2, none⟩) h.fsz).trans h.f2
    u := fun i hi => (k.cell (p := ⟨ub, i, none⟩) h.usz).trans (h.u i hi)
    fu := fun i => (k.frozen (p := ⟨ub, i, none⟩) h.usz).trans (h.fu i)
    row := by
      refine ⟨h.row.1, ?_⟩
      rcases h.row.2 with hn | ⟨g, cap, cur, hv, hb, hg, rest⟩
      · exact .inl hn
      · exact .inr ⟨g, cap, cur, hv, hb, (k.block g (Array.getElem?_eq_some_iff.1 hg).1).trans hg, rest⟩
    q := h.q.below h.bsz k
    bsz := Nat.lt_of_lt_of_le h.bsz k.size
    fsz := Nat.lt_of_lt_of_le h.fsz k.size
    usz := Nat.lt_of_lt_of_le h.usz k.size }
set_option maxHeartbeats 3200000 in
set_option maxRecDepth 1000000 in
theorem may_any {w : World} {B fb ub bl ol cl : Nat} {l : Array QOp} {v : Value} {p : List Int} (h : FS w B fb ub bl ol cl l v p) (i : Nat) (hi : i < l.size) (hn : l.size ≤ 1000) :
    Calls Try.prog 47 #[.pointer (some ⟨fb, 0, none⟩), .int .i64 i] w (Says (May l p i) w) := by
  have c0 := h.c0
  have H := Lib.hid h
  clear h
  go_enter Try.func47, Try.ntmps47
  go_wp2
  clear c0
  go_loopw [12] (fun t wr => ∃ k : Nat, k ≤ l.size ∧ t = .int .i64 k ∧ Hid (Below w.heap.size w wr) ∧ Hid (∀ j : Nat, j < k → (j : Int) ∉ p → j ≠ i → ¬ (l[j]!).to < (l[i]!).fr)) (fun t _ => l.size - (intOf t).toNat)
  case atStart => exact ⟨0, Nat.zero_le _, rfl, Lib.hid (Below.refl _ _), Lib.hid (fun j hj => by omega)⟩
  case round =>
    obtain ⟨k, hk, rfl, hB, hall⟩ := hrel
    have hF := H.out.grow hB.out
    have i1 : (i : Int) < (l.size : Int) := by omega
    have i2 : (0 : Int) ≤ (i : Int) := by omega
    by_cases hlt : k < l.size
    · have h1 : (k : Int) < (l.size : Int) := by omega
      have h2 : (0 : Int) ≤ (k : Int) := by omega
      obtain ⟨k0, k1, k2, k3⟩ := hF.q k hlt
      obtain ⟨⟨pp, vv, ff, tt⟩, hx⟩ : ∃ x, l[k]! = x := ⟨_, rfl⟩
      rw [hx] at k0 k1 k2 k3
      dsimp only at k0 k1 k2 k3
      obtain ⟨f, hf⟩ : ∃ f, (l[i]!).fr = f := ⟨_, rfl⟩
      have hG := hF.grow ((Below.refl wr.heap.size wr).alloc (Nat.le_refl _) (.cells #[.bool pp, .int .i64 vv, .int .i64 ff, .int .i64 tt] 58))
      have hB2 := hB.out.alloc hB.out.size (.cells #[.bool pp, .int .i64 vv, .int .i64 ff, .int .i64 tt] 58)
      have a3 : (wr.alloc (.cells #[.bool pp, .int .i64 vv, .int .i64 ff, .int .i64 tt] 58)).cell? ⟨wr.heap.size, 3, none⟩ = some (.int .i64 tt) := by simp
      obtain ⟨W1, hW1⟩ : ∃ W1, wr.alloc (.cells #[.bool pp, .int .i64 vv, .int .i64 ff, .int .i64 tt] 58) = W1 := ⟨_, rfl⟩
      obtain ⟨A, hA⟩ : ∃ A, wr.heap.size = A := ⟨_, rfl⟩
      rw [hW1] at hG hB2 a3
      rw [hA] at a3
      have g0 := hG.c0
      have g1 := hG.c1
      have gu := hG.u k hlt
      have gf := (hG.q i hi).2.2.1
      rw [hf] at gf
      have HG := Lib.hid hG
      have HB2 := Lib.hid hB2
      have HX := Lib.hid (And.intro hx hf)
      clear hG hB2 hF hx hf hB
      by_cases hp : (k : Int) ∈ p
      · rw [decide_eq_true hp] at gu
        have HP := Lib.hid hp
        clear hp
        go_wp2_with fail
        go_quiet (fail)
        go_wp2
        go_roundw
        case rel =>
          refine ⟨k + 1, by omega, by go_num, Lib.hid (below_drewN HB2.out _), Lib.hid (fun j hj hjp hji => ?_)⟩
          rcases Nat.lt_or_ge j k with h | h
          · have := hall.out j h hjp hji; omega
          · obtain rfl : j = k := by omega
            exact absurd HP.out hjp
        case measure => simp [intOf]; omega
      · rw [decide_eq_false hp] at gu
        have HP := Lib.hid hp
        clear hp
        by_cases hki : k = i
        · subst hki
          go_wp2_with fail
          go_quiet (fail)
          go_wp2
          go_roundw
          case rel =>
            refine ⟨k + 1, by omega, by go_num, Lib.hid (below_drewN HB2.out _), Lib.hid (fun j hj hjp hji => ?_)⟩
            have := hall.out j (by omega) hjp hji; omega
          case measure => simp [intOf]; omega
        · have hki1 : ¬ (k : Int) = (i : Int) := by omega
          have hki2 : ((k : Int) == (i : Int)) = false := beq_eq_false_iff_ne.2 hki1
          by_cases hb : tt < f
          · go_wp2_with fail
            go_quiet (fail)
            go_wp2
            go_ret
            refine ⟨false, rfl, ⟨fun h => absurd h (by decide), fun h => ?_⟩, below_drewN HB2.out _⟩
            have := h.2 k hlt HP.out hki
            rw [HX.out.1, HX.out.2] at this
            exact absurd hb this
          · have hd : decide (tt < f) = false := by simpa using hb
            go_wp2_with fail
            go_quiet (fail)
            go_wp2
            go_roundw
            case rel =>
              refine ⟨k + 1, by omega, by go_num, Lib.hid (below_drewN HB2.out _), Lib.hid (fun j hj hjp hji => ?_)⟩
              rcases Nat.lt_or_ge j k with h | h
              · have := hall.out j h hjp hji; omega
              · obtain rfl : j = k := by omega
                rw [HX.out.1, HX.out.2]; show ¬ tt < f; omega
            case measure => simp [intOf]; omega
    · obtain rfl : k = l.size := by omega
      have g1 := hF.c1
      have gu := hF.u i hi
      clear hF
      by_cases hp : (i : Int) ∈ p
      · rw [decide_eq_true hp] at gu
        have HP := Lib.hid hp
        clear hp
        go_wp2
        go_ret
        exact ⟨false, rfl, ⟨fun h => absurd h (by decide), fun h => absurd HP.out h.1⟩, hB.out⟩
      · rw [decide_eq_false hp] at gu
        have HP := Lib.hid hp
        clear hp
        go_wp2
        go_ret
        exact ⟨true, rfl, ⟨fun _ => ⟨HP.out, fun k hk hkp hki => by have := hall.out k hk hkp hki; omega⟩, fun _ => rfl⟩, hB.out⟩
end Go.Proofs.Ytkbbpjknakajeaa.Li
