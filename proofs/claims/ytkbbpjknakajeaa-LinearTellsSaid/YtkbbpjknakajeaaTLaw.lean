/- LinearTells answers true, for every list of calls. -/
import Derived.Test.YtkbbpjknakajeaaTRef
namespace Go.Proofs.Ytkbbpjknakajeaa.Li
open Go.RowKit Go.Shelf Go.Sort
theorem same_ints (a b : Option Addr) (ca cb : Nat) (r : List Int) (w : World) (ha : SliceOf w a r.toArray) (hb : SliceOf w b r.toArray) (hn : r.length ≤ 1000) :
    Calls Try.prog 11 #[.slice a r.length ca, .slice b r.length cb] w fun e w' => e = .returned (.bool true) ∧ Below w.heap.size w w' := by
  have HA := Lib.hid (And.intro ha hb)
  clear ha hb
  go_enter Try.func11, Try.ntmps11
  go_wp2
  go_loopw [13] (fun v wr => ∃ k : Nat, v = .int .i64 k ∧ k ≤ r.length ∧ Hid (Below w.heap.size w wr)) (fun v _ => r.length - (intOf v).toNat)
  case atStart => exact ⟨0, rfl, Nat.zero_le _, Lib.hid (Below.refl _ _)⟩
  case round =>
    obtain ⟨k, rfl, hk, hB⟩ := hrel
    by_cases hlt : k < r.length
    · have h1 : (k : Int) < (r.length : Int) := by omega
      have h2 : (0 : Int) ≤ (k : Int) := by omega
      have e1 : r.toArray.size = r.length := by simp
      obtain ⟨ba, oa, rfl, hba, hra⟩ : ∃ b off, a = some ⟨b, off, none⟩ ∧ b < w.heap.size ∧ Reads w b off r.toArray := by
        rcases HA.out.1 with h | h
        · omega
        · exact h
      obtain ⟨bb, ob, rfl, hbb, hrb⟩ : ∃ b' off, b = some ⟨b', off, none⟩ ∧ b' < w.heap.size ∧ Reads w b' off r.toArray := by
        rcases HA.out.2 with h | h
        · omega
        · exact h
      have c1 := (hra.below hba hB.out) k (by omega)
      have c2 := (hrb.below hbb hB.out) k (by omega)
      obtain ⟨z, hz⟩ : ∃ z, r.toArray[k]! = z := ⟨_, rfl⟩
      rw [hz] at c1 c2
      clear hra hrb hz e1
      go_wp2_with fail
      go_quiet (fail)
      go_wp2
      go_roundw
      case rel => exact ⟨k + 1, by go_num, by omega, Lib.hid (below_drewN hB.out _)⟩
      case measure => simp [intOf]; omega
    · obtain rfl : k = r.length := by omega
      go_wp2
      go_ret
      exact ⟨rfl, hB.out⟩
theorem row_both {al a : Option Addr} {cl c : Nat} {l : Array QOp} {r : List Int} {w : World} (hq : SliceOfQ w al l) (hr : r ∈ allRows l.size) (hG : G l r) (hs : SliceOf w a r.toArray) (hn : l.size ≤ 10) :
    Calls Try.prog 12 #[.slice al l.size cl, .slice a r.length c] w (Says True w) ∧ Calls Try.prog 13 #[.slice al l.size cl, .slice a r.length c] w (Says True w) := by
  have hl := row_length hr
  have e1 : r.toArray.size = r.length := by simp
  rcases Nat.eq_zero_or_pos r.length with h0 | h0
  · have hl0 : l.size = 0 := by omega
    have hr0 : r = [] := List.eq_nil_of_length_eq_zero h0
    subst hr0
    rw [hl0]
    have c34 : Calls Try.prog 34 #[.int .i64 ((0 : Nat) : Int), .slice a 0 c] w (Says True w) := (once_none 0 c a w).mono (says_iff (by simp))
    exact ⟨fits_nil al a 0 cl c (by omega) w c34, does_nil al a 0 cl c (by omega) w c34⟩
  · rcases hs with hs | ⟨b, off, rfl, hb, hrd⟩
    · omega
    · rcases hq with hq | ⟨bl, ol, rfl, hbl, hq⟩
      · omega
      · have ho : OnceRes l.size r.toArray := once_iff.2 (row_once hr)
        have c34 := once_some l.size b off c r.toArray (by omega) (by omega) w hb hrd
        have f := fits_some bl ol cl b off c l r.toArray (by omega) (by omega) w hb hbl hq hrd (Q := OnceRes l.size r.toArray) once_within c34
        have d := does_some bl ol cl b off c l r.toArray (by omega) (by omega) w hb hbl hq hrd (Q := OnceRes l.size r.toArray) once_within c34
        rw [e1] at f d
        exact ⟨f.mono (says_iff ⟨fun _ => trivial, fun _ => ⟨ho, (fits_iff l r.toArray r.length).2 (by have := hG.1; rwa [e1] at this)⟩⟩), d.mono (says_iff ⟨fun _ => trivial, fun _ => ⟨ho, hG.2⟩⟩)⟩
theorem fnd_mem {Q : List Int → Prop} {L : List (List Int)} {r : List Int} (h : fnd Q L = some r) : r ∈ L ∧ Q r := by
  unfold fnd at h
  exact ⟨List.mem_of_find?_eq_some h, by simpa using List.find?_some h⟩
set_option maxHeartbeats 3200000 in
set_option maxRecDepth 1000000 in
theorem tells_skip (al : Option Addr) (cl n : Nat) (w : World) (h : (7 < n ∧ n ≤ 10) ∨ 100 < n) : Calls Try.prog 3 #[.slice al n cl] w fun e w' => e = .returned (.bool true) ∧ Below w.heap.size w w' := by
  rcases h with ⟨h1, h2⟩ | h1
  · have g1 : (n : Int) > 7 := by omega
    have g2 : (n : Int) ≤ 10 := by omega
    go_enter Try.func3, Try.ntmps3
    go_wp2_with (go_at_call 8; refine (fixed_ok _).mono ?_; rintro e w1 ⟨rfl, hB1⟩; have HB1 := Lib.hid hB1; clear hB1)
    go_ret
    exact ⟨rfl, HB1.out⟩
  · have g1 : (n : Int) > 7 := by omega
    have g2 : ¬ (n : Int) ≤ 10 := by omega
    have g3 : (n : Int) > 100 := by omega
    go_enter Try.func3, Try.ntmps3
    go_wp2_with (go_at_call 8; refine (fixed_ok _).mono ?_; rintro e w1 ⟨rfl, hB1⟩; have HB1 := Lib.hid hB1; clear hB1)
    go_ret
    exact ⟨rfl, HB1.out⟩
set_option maxHeartbeats 3200000 in
set_option maxRecDepth 1000000 in
theorem tells_no (al : Option Addr) (cl n : Nat) (w : World) (h : n ≤ 7 ∨ (10 < n ∧ n ≤ 100)) (z : Int)
    (c9 : ∀ W, Below w.heap.size w W → Calls Try.prog 9 #[.slice al n cl] W fun e w' => e = noRow z ∧ Below W.heap.size W w')
    (c10 : ∀ W, Below w.heap.size w W → Calls Try.prog 10 #[.slice al n cl] W fun e w' => e = noRow z ∧ Below W.heap.size W w') :
    Calls Try.prog 3 #[.slice al n cl] w fun e w' => e = .returned (.bool true) ∧ Below w.heap.size w w' := by
  have C9 := Lib.hid c9
  have C10 := Lib.hid c10
  clear c9 c10
  have nil : SliceOf w none ([] : List Int).toArray := .inl rfl
  rcases h with h1 | ⟨h1, h2⟩
  · have g1 : ¬ (n : Int) > 7 := by omega
    have g3 : ¬ (n : Int) > 100 := by omega
    go_enter Try.func3, Try.ntmps3
    go_wp2_with (first
      | (go_at_call 8; refine (fixed_ok _).mono ?_; rintro e w1 ⟨rfl, hB1⟩; have c9 := C9.out w1 hB1; have HB1 := Lib.hid hB1; clear hB1)
      | (go_at_call 9; refine c9.mono ?_; clear c9; rintro e w2 ⟨rfl, hB2⟩; have hB := HB1.out.trans (hB2.mono HB1.out.size); have c10 := C10.out w2 hB; have c11 := fun W => same_ints none none 0 0 [] W (.inl rfl) (.inl rfl) (by simp); have HB2 := Lib.hid hB; clear hB hB2; unfold noRow)
      | (go_at_call 10; refine c10.mono ?_; clear c10; rintro e w3 ⟨rfl, hB3⟩; have HB3 := Lib.hid (HB2.out.trans (hB3.mono HB2.out.size)); clear hB3; unfold noRow)
      | (go_at_call 11; refine (c11 _).mono ?_; clear c11; rintro e w4 ⟨rfl, hB4⟩; have HB4 := Lib.hid (HB3.out.trans (hB4.mono HB3.out.size)); clear hB4))
    go_ret
    exact ⟨rfl, HB4.out⟩
  · have g1 : (n : Int) > 7 := by omega
    have g2 : ¬ (n : Int) ≤ 10 := by omega
    have g3 : ¬ (n : Int) > 100 := by omega
    go_enter Try.func3, Try.ntmps3
    go_wp2_with (first
      | (go_at_call 8; refine (fixed_ok _).mono ?_; rintro e w1 ⟨rfl, hB1⟩; have c9 := C9.out w1 hB1; have HB1 := Lib.hid hB1; clear hB1)
      | (go_at_call 9; refine c9.mono ?_; clear c9; rintro e w2 ⟨rfl, hB2⟩; have hB := HB1.out.trans (hB2.mono HB1.out.size); have c10 := C10.out w2 hB; have c11 := fun W => same_ints none none 0 0 [] W (.inl rfl) (.inl rfl) (by simp); have HB2 := Lib.hid hB; clear hB hB2; unfold noRow)
      | (go_at_call 10; refine c10.mono ?_; clear c10; rintro e w3 ⟨rfl, hB3⟩; have HB3 := Lib.hid (HB2.out.trans (hB3.mono HB2.out.size)); clear hB3; unfold noRow)
      | (go_at_call 11; refine (c11 _).mono ?_; clear c11; rintro e w4 ⟨rfl, hB4⟩; have HB4 := Lib.hid (HB3.out.trans (hB4.mono HB3.out.size)); clear hB4))
    go_ret
    exact ⟨rfl, HB4.out⟩
/-- an answer with a row -/
def RowRes (r : List Int) (W : World) (e : Ending) (W' : World) : Prop := ∃ a c, e = .returned (.tuple #[.slice a r.length c, .bool true, .int .i64 0]) ∧ SliceOf W' a r.toArray ∧ Below W.heap.size W W'
set_option maxHeartbeats 3200000 in
set_option maxRecDepth 1000000 in
theorem tells_some (al : Option Addr) (cl : Nat) (l : Array QOp) (w : World) (hq : SliceOfQ w al l) (hn : l.size ≤ 7) (r : List Int) (hr : r ∈ allRows l.size) (hG : G l r)
    (c9 : ∀ W, Below w.heap.size w W → Calls Try.prog 9 #[.slice al l.size cl] W (RowRes r W))
    (c10 : ∀ W, Below w.heap.size w W → Calls Try.prog 10 #[.slice al l.size cl] W (RowRes r W)) :
    Calls Try.prog 3 #[.slice al l.size cl] w fun e w' => e = .returned (.bool true) ∧ Below w.heap.size w w' := by
  have C9 := Lib.hid c9
  have C10 := Lib.hid c10
  have HQ := Lib.hid (And.intro hq (And.intro hr (And.intro hG (And.intro (row_length hr) hn))))
  clear c9 c10 hq hr hG
  have g1 : ¬ (l.size : Int) > 7 := by omega
  have g3 : ¬ (l.size : Int) > 100 := by omega
  go_enter Try.func3, Try.ntmps3
  go_wp2_with (first
    | (go_at_call 8; refine (fixed_ok _).mono ?_; rintro e w1 ⟨rfl, hB1⟩; have c9 := C9.out w1 hB1; have HB1 := Lib.hid hB1; clear hB1)
    | (go_at_call 9; refine c9.mono ?_; clear c9; rintro e w2 ⟨a, c, rfl, hS2, hB2⟩; have hB := HB1.out.trans (hB2.mono HB1.out.size); have c10 := C10.out w2 hB; have HB2 := Lib.hid (And.intro hB hS2); clear hB hB2 hS2)
    | (go_at_call 10; refine c10.mono ?_; clear c10; rintro e w3 ⟨a2, c2, rfl, hS3, hB3⟩; have hS := HB2.out.2.below hB3; have hB := HB2.out.1.trans (hB3.mono HB2.out.1.size); have c11 := same_ints a a2 c c2 r w3 hS hS3 (by have := HQ.out.2.2.2.1; have := HQ.out.2.2.2.2; omega); have HB3 := Lib.hid (And.intro hB hS); clear hB3 hB hS hS3)
    | (go_at_call 11; refine c11.mono ?_; clear c11; rintro e w4 ⟨rfl, hB4⟩; have hB := HB3.out.1.trans (hB4.mono HB3.out.1.size); have hS := HB3.out.2.below hB4; have c12 := (row_both (cl := cl) (c := c) (HQ.out.1.below hB) HQ.out.2.1 HQ.out.2.2.1 hS (by have := HQ.out.2.2.2.2; omega)).1; have HB4 := Lib.hid (And.intro hB hS); clear hB4 hB hS)
    | (go_at_call 12; refine c12.mono ?_; clear c12; rintro e w5 ⟨r5, rfl, hr5, hB5⟩; obtain rfl : r5 = true := hr5.2 trivial; have hB := HB4.out.1.trans (hB5.mono HB4.out.1.size); have hS := HB4.out.2.below hB5; have c13 := (row_both (cl := cl) (c := c) (HQ.out.1.below hB) HQ.out.2.1 HQ.out.2.2.1 hS (by have := HQ.out.2.2.2.2; omega)).2; have HB5 := Lib.hid hB; clear hB5 hB hS hr5)
    | (go_at_call 13; refine c13.mono ?_; clear c13; rintro e w6 ⟨r6, rfl, hr6, hB6⟩; obtain rfl : r6 = true := hr6.2 trivial; have HB6 := Lib.hid (HB5.out.trans (hB6.mono HB5.out.size)); clear hB6 hr6))
  go_ret
  exact ⟨rfl, HB6.out⟩
theorem tells_law (al : Option Addr) (cl : Nat) (l : Array QOp) (w : World) (hq : SliceOfQ w al l) : Calls Try.prog 3 #[.slice al l.size cl] w fun e w' => e = .returned (.bool true) ∧ Below w.heap.size w w' := by
  by_cases h1 : (7 < l.size ∧ l.size ≤ 10) ∨ 100 < l.size
  · exact tells_skip al cl l.size w h1
  · have hc : l.size ≤ 7 ∨ (10 < l.size ∧ l.size ≤ 100) := by omega
    rcases hc with h7 | h10
    · have L9 : ∀ W, Below w.heap.size w W → Calls Try.prog 9 #[.slice al l.size cl] W (LinRes l W) := fun W hW => lin_any al cl l W (hq.below hW) (by omega)
      have L10 : ∀ W, Below w.heap.size w W → Calls Try.prog 10 #[.slice al l.size cl] W (LinRes l W) := fun W hW => r_any al cl l W (hq.below hW) (by omega)
      by_cases ho : AnyOdd l
      · have key : ∀ W e W', LinRes l W e W' → e = noRow 1 ∧ Below W.heap.size W W' := fun W e W' h => by
          obtain ⟨hB, h | h | h | h⟩ := h
          · exact absurd h.1 (by omega)
          · exact ⟨h.2.2, hB⟩
          · exact absurd ho h.2.1
          · exact absurd ho h.2.1
        exact tells_no al cl l.size w (.inl h7) 1 (fun W hW => (L9 W hW).mono (key W)) (fun W hW => (L10 W hW).mono (key W))
      · cases hg : goal l [] l.size with
        | none =>
          have key : ∀ W e W', LinRes l W e W' → e = noRow 0 ∧ Below W.heap.size W W' := fun W e W' h => by
            obtain ⟨hB, h | h | h | ⟨_, _, r, a, c, hr, _⟩⟩ := h
            · exact absurd h.1 (by omega)
            · exact absurd h.2.1 ho
            · exact ⟨h.2.2.2, hB⟩
            · rw [hg] at hr; cases hr
          exact tells_no al cl l.size w (.inl h7) 0 (fun W hW => (L9 W hW).mono (key W)) (fun W hW => (L10 W hW).mono (key W))
        | some r =>
          have hm := hg
          rw [goal_all] at hm
          obtain ⟨hr, hG⟩ := fnd_mem hm
          have key : ∀ W e W', LinRes l W e W' → RowRes r W e W' := fun W e W' h => by
            obtain ⟨hB, h | h | h | ⟨_, _, r', a, c, hr', he, hs, _⟩⟩ := h
            · exact absurd h.1 (by omega)
            · exact absurd h.2.1 ho
            · have := h.2.2.1
              rw [hg] at this; cases this
            · rw [hg] at hr'
              obtain rfl := Option.some.inj hr'
              exact ⟨a, c, he, hs, hB⟩
          exact tells_some al cl l w hq h7 r hr hG (fun W hW => (L9 W hW).mono (key W)) (fun W hW => (L10 W hW).mono (key W))
    · have key : ∀ W e W', LinRes l W e W' → e = noRow 12 ∧ Below W.heap.size W W' := fun W e W' h => by
        obtain ⟨hB, h | h | h | h⟩ := h
        · exact ⟨h.2, hB⟩
        · exact absurd h.1 (by omega)
        · exact absurd h.1 (by omega)
        · exact absurd h.1 (by omega)
      exact tells_no al cl l.size w (.inr h10) 12 (fun W _ => (lin_many al cl l W h10.1).mono (key W)) (fun W _ => (r_many al cl l W h10.1).mono (key W))
end Go.Proofs.Ytkbbpjknakajeaa.Li
