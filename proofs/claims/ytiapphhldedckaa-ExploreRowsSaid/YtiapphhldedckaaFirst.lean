/- The first row, the program's and the document's. -/
import Derived.Test.YtiapphhldedckaaRepeat
namespace Go.Proofs.Ytiapphhldedckaa.Ex
open Go.RowKit Go.Sort Nx
theorem own_cell {w : World} {base : Nat} {e : TypeId} {size n g cap : Nat} {xs : List Value} (h : w.ownsRow base e size (.slice (some ⟨g, 0, none⟩) n cap) n xs) {j : Nat} {v : Value} (hj : xs[j]? = some v) : w.cell? ⟨g, j, none⟩ = some v := by
  rcases h.2 with ⟨h1, _⟩ | ⟨g', cap', cur, h1, _, hg, hn, hm, hs, ht⟩
  · cases h1
  · cases h1
    have hl := h.1
    have hjl : j < xs.length := (List.getElem?_eq_some_iff.1 hj).1
    rw [← ht, List.getElem?_take_of_lt (by omega)] at hj
    simp only [World.cell?, hg]
    simpa using hj
theorem own_kept {w w' : World} {base : Nat} {e : TypeId} {size n : Nat} {v : Value} {xs : List Value} (h : w.ownsRow base e size v n xs) (hb : Below w.heap.size w w') : w'.ownsRow base e size v n xs := by
  refine h.kept (row := none) ⟨hb.os, hb.tape, hb.output, hb.size, fun k hk _ => hb.block k hk⟩ ?_
  cases ho : v.ownBlock with
  | none => exact .inl rfl
  | some k => exact .inr (by simp)
theorem own_form {w : World} {base : Nat} {e : TypeId} {size n : Nat} {v : Value} {xs : List Value} (h : w.ownsRow base e size v n xs) (hn : v ≠ .slice none 0 0) : ∃ g cap, v = .slice (some ⟨g, 0, none⟩) n cap ∧ base ≤ g ∧ g < w.heap.size := by
  rcases h.2 with ⟨h1, _⟩ | ⟨g, cap, cur, h1, hb, hg, _⟩
  · exact absurd h1 hn
  · exact ⟨g, cap, h1, hb, (Array.getElem?_eq_some_iff.1 hg).1⟩
/-- the row of the first k counts -/
def fr (c : List Nat) (k : Nat) : List Int := (List.range' 0 k).flatMap fun i => List.replicate (c.getD i 0) (i : Int)
theorem fr_succ (c : List Nat) (k : Nat) : fr c (k + 1) = fr c k ++ List.replicate (c.getD k 0) (k : Int) := by
  unfold fr
  rw [List.range'_concat]
  simp
theorem fr_first (c : List Nat) : fr c c.length = firstRow c := rfl
def ints (l : List Int) : List Value := l.map (Value.int .i64)
theorem ints_append (l r : List Int) : ints (l ++ r) = ints l ++ ints r := by simp [ints]
theorem ints_replicate (n : Nat) (x : Int) : ints (List.replicate n x) = List.replicate n (.int .i64 x) := by simp [ints]
/-- a row that the call made, an empty one too -/
def RowOf (w : World) (base : Nat) (v : Value) (l : List Int) : Prop := w.ownsRow base 3 1 v l.length (ints l)
def FirstRes (w : World) (c : List Nat) (e : Ending) (w' : World) : Prop := ∃ v, e = .returned (.tuple #[v, .int .i64 0]) ∧ RowOf w' w.heap.size v (firstRow c) ∧ Below w.heap.size w w'
set_option maxHeartbeats 3200000 in
set_option maxRecDepth 1000000 in
theorem first7 (b off cap : Nat) (d : Array Int) (w : World) (hf : Right d) (hb : b < w.heap.size) (hr : Reads w b off d) :
    Calls Try.prog 7 #[.slice (some ⟨b, off, none⟩) d.size cap] w (FirstRes w (nats d)) := by
  obtain ⟨t0, hi, hz0, hz1, hz2⟩ := info_parts Nx.Try.info3
  have h8 := hf.1
  have HR := Lib.hid hr
  have HF := Lib.hid hf
  clear hr hf
  go_enter Try.func7, Try.ntmps7
  go_wp2_with fail
  refine (check_ok (some ⟨b, off, none⟩) cap d w (.inr ⟨b, off, rfl, hb, HR.out⟩) HF.out).mono ?_
  rintro e w' ⟨rfl, rfl⟩
  go_wp2_with fail
  go_loopw [5, 15] (fun v s wr => ∃ k : Nat, k ≤ d.size ∧ s = .int .i64 k ∧ Hid (wr.ownsRow w.heap.size 3 1 v (fr (nats d) k).length (ints (fr (nats d) k)) ∧ Below w.heap.size w wr ∧ (fr (nats d) k).length ≤ 64 * k)) (fun _ s _ => d.size - (intOf s).toNat)
  case atStart => exact ⟨0, Nat.zero_le _, rfl, Lib.hid ⟨World.ownsRow_nil _ _ _ _, Below.refl _ _, by simp [fr]⟩⟩
  case round =>
    obtain ⟨k, hk, rfl, H⟩ := hrel
    by_cases hlt : k < d.size
    · obtain ⟨n, hn, hn64⟩ := fine_nat HF.out.2 hlt
      have ck : wr.cell? ⟨b, off + k, none⟩ = some (.int .i64 n) := by
        have := HR.out k hlt
        rw [hn] at this
        exact (H.out.2.1.cell (p := ⟨b, off + k, none⟩) hb).trans this
      have hgk : (nats d).getD k 0 = n := by rw [nats_get, hn, Int.toNat_natCast]
      have HGK := Lib.hid hgk
      have h1 : (k : Int) < (d.size : Int) := by omega
      have h0 : (0 : Int) ≤ (k : Int) := by omega
      clear hn hgk
      go_wp2_with fail
      refine (rep_any wr.heap.size n k _ hn64 (by simp)).mono ?_
      rintro e w2 ⟨v2, rfl, hown2, hne, hb2⟩
      obtain ⟨g, c2, rfl, hg1, hg2⟩ := own_form hown2 hne
      have hbw : Below wr.heap.size wr w2 := ((Below.refl wr.heap.size wr).alloc (Nat.le_refl _) _).trans (hb2.mono (by simp))
      have hown := own_kept H.out.1 hbw
      have hB2 : Below w.heap.size w w2 := H.out.2.1.trans (hbw.mono H.out.2.1.size)
      have HO := Lib.hid hown
      have HO2 := Lib.hid hown2
      have HB2 := Lib.hid hB2
      clear hown hown2 hb2 hbw hB2 hne
      have hlen := H.out.2.2
      go_wp2_with (first
        | (at_builtin; refine wpList_append_own _ rfl _ _ 22 rfl w.heap.size 3 t0 _ 1 8 Try.underlying22 hi hz0 hz1 hz2 rfl (by decide) _ _ _ rfl HO.out ⟨g, 0, none⟩ n c2 (List.replicate n (.int .i64 k)) rfl ?c0 ?c1 ?c2 ?c3 ?c4 ?c5 ?_))
      case c0 => simp
      case c1 =>
        intro j u hu
        rw [Addr.add_lit, Nat.zero_add]
        exact own_cell HO2.out hu
      case c2 => intro u hu; rw [List.eq_of_mem_replicate hu]; rfl
      case c3 => unfold maxLen; omega
      case c4 => omega
      case c5 => exact HB2.out.size
      intro v' w3 hown' hgrow _
      have R : w3.ownsRow w.heap.size 3 1 v' (fr (nats d) (k + 1)).length (ints (fr (nats d) (k + 1))) := by
        rw [fr_succ, HGK.out, ints_append, ints_replicate, List.length_append, List.length_replicate]; exact hown'
      have B1 : Below w.heap.size w w3 := HB2.out.grown hgrow HB2.out.size (fun j hj => ((HO.out.lt j hj).1))
      have hL : (fr (nats d) (k + 1)).length ≤ 64 * (k + 1) := by rw [fr_succ, HGK.out, List.length_append, List.length_replicate]; omega
      have HX := Lib.hid (And.intro R (And.intro B1 hL))
      clear hown' hgrow R B1 hL hlen
      go_wp2
      go_roundw
      case rel => exact ⟨k + 1, by omega, by go_num, HX⟩
      case measure => simp [intOf]; omega
    · obtain rfl : k = d.size := by omega
      have hfin := H.out
      rw [← nats_length d, fr_first] at hfin
      have HFin := Lib.hid hfin
      clear hfin
      go_wp2
      go_ret2
      exact ⟨_, rfl, HFin.out.1, HFin.out.2.1⟩
set_option maxHeartbeats 3200000 in
set_option maxRecDepth 1000000 in
theorem first7_zero (a : Option Addr) (cap : Nat) (w : World) : Calls Try.prog 7 #[.slice a 0 cap] w fun e w' => e = .returned (.tuple #[.slice none 0 0, .int .i64 0]) ∧ w = w' := by
  go_enter Try.func7, Try.ntmps7
  go_wp2_with fail
  refine (check_ok a cap #[] w (.inl rfl) ⟨by simp, fun j hj => by simp at hj⟩).mono ?_
  rintro e w' ⟨rfl, rfl⟩
  go_wp2_with fail
  refine wp_loop_rounds 1 ?_
  rw [rounds_succ]
  go_wp2
  go_ret2
  exact ⟨rfl, rfl⟩
theorem first_zero {d : Array Int} (h : d.size = 0) : firstRow (nats d) = [] := by
  have e : nats d = [] := List.eq_nil_of_length_eq_zero (by rw [nats_length]; exact h)
  rw [e]; rfl
theorem First_ok (a : Option Addr) (cap : Nat) (d : Array Int) (w : World) (h : SliceOf w a d) (hf : Right d) : Calls Try.prog 7 #[.slice a d.size cap] w (FirstRes w (nats d)) := by
  rcases h with h | ⟨b, off, rfl, hb, hr⟩
  · rw [h]
    refine (first7_zero a cap w).mono ?_
    rintro e w' ⟨rfl, rfl⟩
    exact ⟨_, rfl, by rw [first_zero h]; exact World.ownsRow_nil _ _ _ _, Below.refl _ _⟩
  · exact first7 b off cap d w hf hb hr
set_option maxHeartbeats 3200000 in
set_option maxRecDepth 1000000 in
theorem First_bad (a : Option Addr) (cap : Nat) (d : Array Int) (w : World) (hs : d.size ≤ 20) (h : SliceOf w a d) (hf : ¬ Right d) : Calls Try.prog 7 #[.slice a d.size cap] w fun e w' => e = .returned (.tuple #[.slice none 0 0, .int .i64 1]) ∧ w = w' := by
  have HH := Lib.hid h
  have HF := Lib.hid hf
  clear h hf
  go_enter Try.func7, Try.ntmps7
  go_wp2_with fail
  refine (check_bad a cap d w hs HH.out HF.out).mono ?_
  rintro e w' ⟨rfl, rfl⟩
  go_wp2
  go_ret2
  exact ⟨rfl, rfl⟩
/-! ### the document's -/
def FirstRRes (w : World) (c : List Nat) (e : Ending) (w' : World) : Prop := ∃ v, e = .returned v ∧ RowOf w' w.heap.size v (firstRow c) ∧ Below w.heap.size w w'
set_option maxHeartbeats 3200000 in
set_option maxRecDepth 1000000 in
theorem first12 (b off cap : Nat) (d : Array Int) (w : World) (hf : Right d) (hb : b < w.heap.size) (hr : Reads w b off d) :
    Calls Try.prog 12 #[.slice (some ⟨b, off, none⟩) d.size cap] w (FirstRRes w (nats d)) := by
  obtain ⟨t0, hi, hz0, hz1, hz2⟩ := info_parts Nx.Try.info3
  have h8 := hf.1
  have HR := Lib.hid hr
  have HF := Lib.hid hf
  clear hr hf
  go_enter Try.func12, Try.ntmps12
  go_wp2_with fail
  go_loopw [3, 9] (fun v s wr => ∃ k : Nat, k ≤ d.size ∧ s = .int .i64 k ∧ Hid (wr.ownsRow w.heap.size 3 1 v (fr (nats d) k).length (ints (fr (nats d) k)) ∧ Below w.heap.size w wr ∧ (fr (nats d) k).length ≤ 64 * k)) (fun _ s _ => d.size - (intOf s).toNat)
  case atStart => exact ⟨0, Nat.zero_le _, rfl, Lib.hid ⟨World.ownsRow_nil _ _ _ _, Below.refl _ _, by simp [fr]⟩⟩
  case round =>
    obtain ⟨k, hk, rfl, H⟩ := hrel
    by_cases hlt : k < d.size
    · obtain ⟨n, hn, hn64⟩ := fine_nat HF.out.2 hlt
      have ck : wr.cell? ⟨b, off + k, none⟩ = some (.int .i64 n) := by
        have := HR.out k hlt
        rw [hn] at this
        exact (H.out.2.1.cell (p := ⟨b, off + k, none⟩) hb).trans this
      have hgk : (nats d).getD k 0 = n := by rw [nats_get, hn, Int.toNat_natCast]
      have HGK := Lib.hid hgk
      have h1 : (k : Int) < (d.size : Int) := by omega
      have h0 : (0 : Int) ≤ (k : Int) := by omega
      clear hn hgk
      obtain ⟨wo, rfl⟩ : ∃ wo : World, wo = wr := ⟨_, rfl⟩
      go_wp2_with fail
      go_loopw [3, 6] (fun v s wr => ∃ m : Nat, m ≤ n ∧ s = .int .i64 m ∧ Hid (wr.ownsRow w.heap.size 3 1 v ((fr (nats d) k).length + m) (ints (fr (nats d) k ++ List.replicate m (k : Int))) ∧ Below w.heap.size w wr)) (fun _ s _ => n - (intOf s).toNat)
      case atStart => exact ⟨0, Nat.zero_le _, rfl, Lib.hid ⟨by simpa using H.out.1, H.out.2.1⟩⟩
      case round =>
        obtain ⟨m, hm, rfl, HM⟩ := hrel
        by_cases hltm : m < n
        · have hlen := H.out.2.2
          have hsz := HM.out.2.size
          go_wp2_with (first
            | (at_builtin; refine wpList_append_own _ rfl _ _ 22 rfl w.heap.size 3 t0 _ 1 8 Try.underlying22 hi hz0 hz1 hz2 rfl (by decide) _ _ _ rfl (HM.out.1.alloc _) ⟨wr.heap.size, 0, none⟩ 1 1 [.int .i64 k] rfl rfl ?c1 ?c2 ?c3 ?c4 ?c5 ?_))
          case c1 =>
            intro j u hj
            rw [Addr.add_lit, Nat.zero_add, World.cell?_alloc_at _ _ _ _ rfl]
            simpa using hj
          case c2 => intro u hu; cases List.mem_singleton.1 hu; rfl
          case c3 => unfold maxLen; omega
          case c4 => omega
          case c5 => simp; omega
          intro v' w3 hown' hgrow _
          have R : w3.ownsRow w.heap.size 3 1 v' ((fr (nats d) k).length + (m + 1)) (ints (fr (nats d) k ++ List.replicate (m + 1) (k : Int))) := by
            rw [List.replicate_succ', ← List.append_assoc, ints_append, ← Nat.add_assoc]; exact hown'
          have B1 : Below w.heap.size w w3 := (HM.out.2.alloc (by exact HM.out.2.size) _).grown hgrow (by simp; omega) (fun j hj => ((HM.out.1.lt j hj).1))
          have HX := Lib.hid (And.intro R B1)
          clear hown' hgrow R B1 hlen
          go_wp2
          go_roundw
          case rel => exact ⟨m + 1, by omega, by go_num, HX⟩
          case measure => simp [intOf]; omega
        · obtain rfl : n = m := by omega
          have hX : wr.ownsRow w.heap.size 3 1 u3 (fr (nats d) (k + 1)).length (ints (fr (nats d) (k + 1))) ∧ Below w.heap.size w wr ∧ (fr (nats d) (k + 1)).length ≤ 64 * (k + 1) := by
            rw [fr_succ, HGK.out, List.length_append, List.length_replicate]
            exact ⟨HM.out.1, HM.out.2, by have := H.out.2.2; omega⟩
          have HX := Lib.hid hX
          clear hX
          go_wp2
          go_roundw
          case rel => exact ⟨k + 1, by omega, by go_num, HX⟩
          case measure => simp [intOf]; omega
    · obtain rfl : k = d.size := by omega
      have hfin := H.out
      rw [← nats_length d, fr_first] at hfin
      have HFin := Lib.hid hfin
      clear hfin
      go_wp2
      go_ret
      exact ⟨_, rfl, HFin.out.1, HFin.out.2.1⟩
set_option maxHeartbeats 3200000 in
set_option maxRecDepth 1000000 in
theorem first12_zero (a : Option Addr) (cap : Nat) (w : World) : Calls Try.prog 12 #[.slice a 0 cap] w fun e w' => e = .returned (.slice none 0 0) ∧ w = w' := by
  go_enter Try.func12, Try.ntmps12
  go_wp2_with fail
  refine wp_loop_rounds 1 ?_
  rw [rounds_succ]
  go_wp2
  go_ret
  exact ⟨rfl, rfl⟩
theorem FirstR_ok (a : Option Addr) (cap : Nat) (d : Array Int) (w : World) (h : SliceOf w a d) (hf : Right d) : Calls Try.prog 12 #[.slice a d.size cap] w (FirstRRes w (nats d)) := by
  rcases h with h | ⟨b, off, rfl, hb, hr⟩
  · rw [h]
    refine (first12_zero a cap w).mono ?_
    rintro e w' ⟨rfl, rfl⟩
    exact ⟨_, rfl, by rw [first_zero h]; exact World.ownsRow_nil _ _ _ _, Below.refl _ _⟩
  · exact first12 b off cap d w hf hb hr
/-! ### the document's Small -/
def SmallRes (d : Array Int) (w : World) (e : Ending) (w' : World) : Prop := ∃ r : Bool, e = .returned (.bool r) ∧ w = w' ∧ (r = true → (nats d).sum ≤ 7)
set_option maxHeartbeats 1600000 in
set_option maxRecDepth 1000000 in
theorem small13 (b off cap : Nat) (d : Array Int) (w : World) (hf : Right d) (hr : Reads w b off d) :
    Calls Try.prog 13 #[.slice (some ⟨b, off, none⟩) d.size cap] w (SmallRes d w) := by
  have h8 := hf.1
  have HR := Lib.hid hr
  have HF := Lib.hid hf
  clear hr hf
  go_enter Try.func13, Try.ntmps13
  go_wp2_with fail
  go_loop [3, 8] (fun s3 s8 => ∃ (k s : Nat), k ≤ d.size ∧ s ≤ 64 * k ∧ s3 = .int .i64 s ∧ s8 = .int .i64 k ∧ Hid (s + ((nats d).drop k).sum = (nats d).sum)) (fun _ s => d.size - (intOf s).toNat)
  case atStart => exact ⟨0, 0, Nat.zero_le _, by omega, rfl, rfl, Lib.hid (by simp)⟩
  case round =>
    obtain ⟨k, s, hk, hs, rfl, rfl, H⟩ := hrel
    by_cases hlt : k < d.size
    · obtain ⟨n, hn, hn64⟩ := fine_nat HF.out.2 hlt
      have ck := HR.out k hlt
      rw [hn] at ck
      have h1 : (k : Int) < (d.size : Int) := by omega
      have h0 : (0 : Int) ≤ (k : Int) := by omega
      have hnew : s + n + ((nats d).drop (k + 1)).sum = (nats d).sum := by
        have := H.out
        rw [nats_drop d k hlt, hn, Int.toNat_natCast, List.sum_cons] at this
        omega
      have HNew := Lib.hid hnew
      have hb1 : (s : Int) ≤ 520 := by omega
      have hb2 : (n : Int) ≤ 64 := by omega
      have hb3 : ¬ (100 : Int) < (n : Int) := by omega
      have hb4 : (0 : Int) ≤ (n : Int) := by omega
      clear hnew hn
      go_wp2
      go_round
      case rel => exact ⟨k + 1, s + n, by omega, by omega, by go_num, by go_num, HNew⟩
      case measure => simp [intOf]; omega
    · obtain rfl : k = d.size := by omega
      have hfin : (nats d).sum = s := by
        have := H.out
        rw [List.drop_of_length_le (by rw [nats_length]; exact Nat.le_refl _)] at this
        simpa using this.symm
      have HFin := Lib.hid hfin
      clear hfin
      by_cases h7 : s ≤ 7
      · have hd : decide ((s : Int) ≤ 7) = true := by simp; omega
        go_wp2
        go_ret
        exact ⟨_, rfl, rfl, fun _ => by rw [HFin.out]; exact h7⟩
      · have hd : decide ((s : Int) ≤ 7) = false := by simp; omega
        go_wp2
        go_ret
        exact ⟨_, rfl, rfl, fun h => by cases h⟩
set_option maxHeartbeats 1600000 in
set_option maxRecDepth 1000000 in
theorem small_zero (a : Option Addr) (cap : Nat) (w : World) : Calls Try.prog 13 #[.slice a 0 cap] w fun e w' => e = .returned (.bool true) ∧ w = w' := by
  go_enter Try.func13, Try.ntmps13
  go_wp2_with fail
  refine wp_loop_rounds 1 ?_
  rw [rounds_succ]
  go_wp2
  go_ret
  exact ⟨rfl, rfl⟩
theorem small_any (a : Option Addr) (cap : Nat) (d : Array Int) (w : World) (h : SliceOf w a d) (hf : Right d) : Calls Try.prog 13 #[.slice a d.size cap] w (SmallRes d w) := by
  rcases h with h | ⟨b, off, rfl, hb, hr⟩
  · rw [h]
    refine (small_zero a cap w).mono ?_
    rintro e w' ⟨rfl, rfl⟩
    have e : nats d = [] := List.eq_nil_of_length_eq_zero (by rw [nats_length]; exact h)
    exact ⟨true, rfl, rfl, fun _ => by rw [e]; simp⟩
  · exact small13 b off cap d w hf hr
end Go.Proofs.Ytiapphhldedckaa.Ex
