/- Going through all rows by Next: the document's Nth and Count. -/
import Derived.Test.YtiapphhldedckaaNthX
namespace Go.Proofs.Ytiapphhldedckaa.Ex
open Go.RowKit Go.Sort Nx
theorem Reads.of_holds' {w : World} {g : Nat} {d : Array Int} (h : Holds encI w g 0 d) : Nx.Reads w g 0 d := fun j hj => (h j hj).1
/-- a slice that holds a row -/
def Held (w : World) (v : Value) (l : List Int) : Prop := (l = [] ∧ ∃ a c, v = .slice a 0 c) ∨ ∃ g c, v = .slice (some ⟨g, 0, none⟩) l.length c ∧ 0 < l.length ∧ g < w.heap.size ∧ Holds encI w g 0 l.toArray
theorem Held.of_row {w : World} {base : Nat} {v : Value} {l : List Int} (h : RowOf w base v l) : Held w v l := by
  unfold RowOf at h
  rcases Nat.eq_zero_or_pos l.length with h0 | h0
  · have e : l = [] := List.eq_nil_of_length_eq_zero h0
    subst e
    refine .inl ⟨rfl, ?_⟩
    rcases h.2 with ⟨rfl, _⟩ | ⟨g, cap, cur, rfl, _⟩
    · exact ⟨none, 0, rfl⟩
    · exact ⟨_, cap, rfl⟩
  · obtain ⟨g, c, rfl, _, _, hg⟩ := own_some h h0
    exact .inr ⟨g, c, rfl, h0, hg, own_holds h⟩
theorem Held.below {w w' : World} {v : Value} {l : List Int} (h : Held w v l) (hb : Below w.heap.size w w') : Held w' v l := by
  rcases h with h | ⟨g, c, rfl, h0, hg, hh⟩
  · exact .inl h
  · refine .inr ⟨g, c, rfl, h0, Nat.lt_of_lt_of_le hg hb.size, fun j hj => ?_⟩
    rw [hb.cell (by exact hg), hb.frozen (by exact hg)]
    exact hh j hj
theorem Held.drewN {w : World} {v : Value} {l : List Int} (h : Held w v l) (n : Nat) : Held (w.drewN n) v l := h
def NoneRes (w : World) (e : Ending) (w' : World) : Prop := e = .returned (.tuple #[.slice none 0 0, .bool false]) ∧ ∃ n, w' = w.drewN n
def NextRes (w : World) (l : List Int) (e : Ending) (w' : World) : Prop := ∃ v, e = .returned (.tuple #[v, .bool true]) ∧ Held w' v l ∧ Below w.heap.size w w'
theorem fall17 {w : World} {v : Value} {l : List Int} (h : Held w v l) (hl : l.length ≤ 60) (hf : FallsL l) : Calls Try.prog 17 #[v] w (NoneRes w) := by
  rcases h with ⟨rfl, a, c, rfl⟩ | ⟨g, c, rfl, h0, hg, hh⟩
  · exact nextR_short a c w
  · have := nextR_none g 0 c l.toArray w (by simpa using h0) (by simpa using hl) hf (Reads.of_holds' hh)
    simp only [List.size_toArray] at this
    exact this
theorem fall16 {w : World} {v : Value} {l : List Int} (h : Held w v l) (hl : l.length ≤ 60) (hf : FallsL l) : Calls Try.prog 16 #[v] w (NoneRes w) := by
  rcases h with ⟨rfl, a, c, rfl⟩ | ⟨g, c, rfl, h0, hg, hh⟩
  · exact nextE_short a c w
  · have := nextE_none g 0 c l.toArray w (by simpa using h0) (by simpa using hl) hf (Reads.of_holds' hh)
    simp only [List.size_toArray] at this
    exact this
theorem some_res {w : World} {l l' : List Int} {i : Nat} (hn : NextAt l.toArray l'.toArray i) {e : Ending} {w' : World} (h : SomeNext w l.toArray i e w') : NextRes w l' e w' := by
  obtain ⟨g, c, r, rfl, hr, hh, _, hg, hb⟩ := h
  obtain rfl : r = l'.toArray := NextRel.unique ⟨i, hr⟩ ⟨i, hn⟩
  have hlen : l'.length = l.length := by simpa using hn.perm.1
  refine ⟨_, rfl, .inr ⟨g, c, ?_, ?_, hg, hh⟩, hb⟩
  · rw [hlen]; simp
  · have := hn.lt; simp at this; omega
theorem next17 {w : World} {v : Value} {l l' : List Int} (h : Held w v l) (hl : l.length ≤ 60) (hn : NxL l l') : Calls Try.prog 17 #[v] w (NextRes w l') := by
  obtain ⟨i, hn⟩ := hn
  rcases h with ⟨rfl, a, c, rfl⟩ | ⟨g, c, rfl, h0, hg, hh⟩
  · have := hn.lt; simp at this
  · have := nextR_some g 0 c l.toArray w (by simpa using hl) i hn.lt hn.falls hn.up (Reads.of_holds' hh)
    exact (by simpa using this : Calls Try.prog 17 #[.slice (some ⟨g, 0, none⟩) l.length c] w (SomeNext w l.toArray i)).mono fun e w' h => some_res hn h
theorem next16 {w : World} {v : Value} {l l' : List Int} (h : Held w v l) (hl : l.length ≤ 60) (hn : NxL l l') : Calls Try.prog 16 #[v] w (NextRes w l') := by
  obtain ⟨i, hn⟩ := hn
  rcases h with ⟨rfl, a, c, rfl⟩ | ⟨g, c, rfl, h0, hg, hh⟩
  · have := hn.lt; simp at this
  · have := nextE_some g 0 c l.toArray w (by simpa using hl) i hn.lt hn.falls hn.up hg (Reads.of_holds' hh)
    exact (by simpa using this : Calls Try.prog 16 #[.slice (some ⟨g, 0, none⟩) l.length c] w (SomeNext w l.toArray i)).mono fun e w' h => some_res hn h
/-- rows that follow each other, the last by none -/
structure Run (R : List (List Int)) : Prop where
  chain : Ch R
  last : ∃ r, R.getLast? = some r ∧ FallsL r
  short : ∀ l ∈ R, l.length ≤ 60
  len : R.length ≤ 5040
/-- at row k, or behind all -/
def At (R : List (List Int)) (k : Nat) (w : World) (v : Value) (more : Bool) : Prop := (∃ l, R[k]? = some l ∧ more = true ∧ Held w v l) ∨ (k = R.length ∧ more = false ∧ v = .slice none 0 0)
def StepRes (R : List (List Int)) (k : Nat) (w : World) (e : Ending) (w' : World) : Prop := ∃ v b, e = .returned (.tuple #[v, .bool b]) ∧ At R k w' v b ∧ Below w.heap.size w w'
theorem step_of {R : List (List Int)} (hR : Run R) {k : Nat} {l : List Int} (hk : R[k]? = some l) : (∃ l', R[k + 1]? = some l' ∧ NxL l l') ∨ (k + 1 = R.length ∧ FallsL l) := by
  have hlt := (List.getElem?_eq_some_iff.1 hk).1
  rcases Nat.lt_or_ge (k + 1) R.length with h | h
  · exact .inl ⟨_, List.getElem?_eq_getElem h, hR.chain k l _ hk (List.getElem?_eq_getElem h)⟩
  · refine .inr ⟨by omega, ?_⟩
    obtain ⟨r, hr, hf⟩ := hR.last
    rw [List.getLast?_eq_getElem?, show R.length - 1 = k from by omega, hk] at hr
    cases hr
    exact hf
theorem step17 {R : List (List Int)} (hR : Run R) {k : Nat} {l : List Int} (hk : R[k]? = some l) {w : World} {v : Value} (h : Held w v l) : Calls Try.prog 17 #[v] w (StepRes R (k + 1) w) := by
  have hs := hR.short l (List.mem_of_getElem? hk)
  rcases step_of hR hk with ⟨l', h1, h2⟩ | ⟨h1, h2⟩
  · exact (next17 h hs h2).mono fun e w' ⟨v', he, hh, hb⟩ => ⟨v', true, he, .inl ⟨l', h1, rfl, hh⟩, hb⟩
  · exact (fall17 h hs h2).mono fun e w' ⟨he, n, hw⟩ => ⟨_, false, he, .inr ⟨h1, rfl, rfl⟩, by subst hw; exact below_drewN (Below.refl _ _) _⟩
theorem step16 {R : List (List Int)} (hR : Run R) {k : Nat} {l : List Int} (hk : R[k]? = some l) {w : World} {v : Value} (h : Held w v l) : Calls Try.prog 16 #[v] w (StepRes R (k + 1) w) := by
  have hs := hR.short l (List.mem_of_getElem? hk)
  rcases step_of hR hk with ⟨l', h1, h2⟩ | ⟨h1, h2⟩
  · exact (next16 h hs h2).mono fun e w' ⟨v', he, hh, hb⟩ => ⟨v', true, he, .inl ⟨l', h1, rfl, hh⟩, hb⟩
  · exact (fall16 h hs h2).mono fun e w' ⟨he, n, hw⟩ => ⟨_, false, he, .inr ⟨h1, rfl, rfl⟩, by subst hw; exact below_drewN (Below.refl _ _) _⟩
/-- the rows of few counts -/
theorem run_small {c : List Nat} (h : c.sum ≤ 7) : Run (rows c.sum c) := by
  have hg := good c.sum c rfl
  obtain ⟨r, hr, hr5⟩ := cnt_small h
  refine ⟨hg.chain, hg.last, fun l hl => ?_, by rw [← cnt_rows hr]; exact hr5⟩
  have hp := perm_of_counts (count_row c.sum c l rfl hl) (count_first c)
  rw [hp.length_eq]
  have : (firstRow c).length = c.sum := by
    unfold firstRow
    rw [List.length_flatMap]
    have h1 : (List.range' 0 c.length).map (fun i => (List.replicate (c.getD i 0) (i : Int)).length) = (List.range' 0 c.length).map fun i => c.getD i 0 := by
      apply List.map_congr_left; intro i _; simp
    rw [h1, sum_range c c.length 0 (by omega), List.drop_zero]
  omega
def NthRRes (R : List (List Int)) (n : Int) (w : World) (e : Ending) (w' : World) : Prop :=
  ((∃ v row, 0 ≤ n ∧ R[n.toNat]? = some row ∧ e = .returned (.tuple #[v, .bool true]) ∧ Held w' v row) ∨ ((n < 0 ∨ (R.length : Int) ≤ n) ∧ e = .returned (.tuple #[.slice none 0 0, .bool false]))) ∧ Below w.heap.size w w'
set_option maxHeartbeats 3200000 in
set_option maxRecDepth 1000000 in
theorem NthR_ok (a : Option Addr) (cap : Nat) (d : Array Int) (n : Int) (w : World) (h : SliceOf w a d) (hf : Right d) (h7 : (nats d).sum ≤ 7) :
    Calls Try.prog 14 #[.slice a d.size cap, .int .i64 n] w (NthRRes (rows (nats d).sum (nats d)) n w) := by
  obtain ⟨R, hR⟩ : ∃ R, rows (nats d).sum (nats d) = R := ⟨_, rfl⟩
  have hrun : Run R := by rw [← hR]; exact run_small h7
  have hhead : R.head? = some (firstRow (nats d)) := by rw [← hR]; exact (good _ _ rfl).head
  rw [hR]
  have HRun := Lib.hid hrun
  have HHead := Lib.hid hhead
  have HH := Lib.hid h
  have HF := Lib.hid hf
  have hL := hrun.len
  clear h hf h7 hR hrun hhead
  go_enter Try.func14, Try.ntmps14
  go_wp2_with fail
  refine (FirstR_ok a cap d w HH.out HF.out).mono ?_
  rintro e w1 ⟨v, rfl, hrow, hb1⟩
  have hat : At R 0 w1 v true := .inl ⟨_, by rw [← List.head?_eq_getElem?]; exact HHead.out, rfl, Held.of_row hrow⟩
  have HA := Lib.hid (And.intro hat hb1)
  clear hat hrow hb1
  go_wp2_with fail
  go_loopw [6, 7, 8] (fun s6 s7 s8 wr => ∃ (k : Nat) (b : Bool), k ≤ R.length ∧ s7 = .bool b ∧ s8 = .int .i64 k ∧ Hid (At R k wr s6 b ∧ Below w.heap.size w wr ∧ ∀ j : Nat, j < k → (j : Int) ≠ n)) (fun _ _ s _ => R.length + 1 - (intOf s).toNat)
  case atStart => exact ⟨0, true, Nat.zero_le _, rfl, rfl, Lib.hid ⟨HA.out.1, HA.out.2, fun j hj => by omega⟩⟩
  case round =>
    obtain ⟨k, b, hk, rfl, rfl, H⟩ := hrel
    rcases H.out.1 with ⟨l, hl, rfl, hh⟩ | ⟨hkL, rfl, hv⟩
    · have hlt := (List.getElem?_eq_some_iff.1 hl).1
      have HL := Lib.hid hl
      have HHl := Lib.hid hh
      clear hl hh
      by_cases hkn : (k : Int) = n
      · have hd : ((k : Int) == n) = true := by simpa using hkn
        have HKN := Lib.hid hkn
        clear hkn
        go_wp2
        go_ret2
        exact ⟨.inl ⟨_, l, by have := HKN.out; omega, by rw [← HKN.out, Int.toNat_natCast]; exact HL.out, rfl, HHl.out⟩, H.out.2.1⟩
      · have hd : ((k : Int) == n) = false := by simpa using hkn
        have HKN := Lib.hid hkn
        clear hkn
        go_wp2_with fail
        refine (step17 HRun.out HL.out HHl.out).mono ?_
        rintro e w2 ⟨v2, b2, rfl, hat2, hb2⟩
        have hnew : At R (k + 1) w2 v2 b2 ∧ Below w.heap.size w w2 ∧ ∀ j : Nat, j < k + 1 → (j : Int) ≠ n := by
          refine ⟨hat2, H.out.2.1.trans (hb2.mono H.out.2.1.size), fun j hj => ?_⟩
          rcases Nat.lt_or_ge j k with h1 | h1
          · exact H.out.2.2 j h1
          · obtain rfl : j = k := by omega
            exact HKN.out
        have HNew := Lib.hid hnew
        clear hnew hat2 hb2
        go_wp2
        go_roundw
        case rel => exact ⟨k + 1, b2, by omega, rfl, by go_num, HNew⟩
        case measure => simp [intOf]; omega
    · clear hv
      have hfin : n < 0 ∨ (R.length : Int) ≤ n := by
        rcases Int.lt_or_le n 0 with h1 | h1
        · exact .inl h1
        · rcases Int.lt_or_le n R.length with h2 | h2
          · exact absurd (by omega) (H.out.2.2 n.toNat (by omega))
          · exact .inr h2
      have HFin := Lib.hid hfin
      clear hfin
      go_wp2
      go_ret2
      exact ⟨.inr ⟨HFin.out, rfl⟩, H.out.2.1⟩
set_option maxHeartbeats 3200000 in
set_option maxRecDepth 1000000 in
theorem CountR_ok (a : Option Addr) (cap : Nat) (d : Array Int) (w : World) (h : SliceOf w a d) (hf : Right d) (h7 : (nats d).sum ≤ 7) :
    Calls Try.prog 15 #[.slice a d.size cap] w fun e w' => e = .returned (.int .i64 ((rows (nats d).sum (nats d)).length : Int)) ∧ Below w.heap.size w w' := by
  obtain ⟨R, hR⟩ : ∃ R, rows (nats d).sum (nats d) = R := ⟨_, rfl⟩
  have hrun : Run R := by rw [← hR]; exact run_small h7
  have hhead : R.head? = some (firstRow (nats d)) := by rw [← hR]; exact (good _ _ rfl).head
  rw [hR]
  have HRun := Lib.hid hrun
  have HHead := Lib.hid hhead
  have HH := Lib.hid h
  have HF := Lib.hid hf
  have hL := hrun.len
  clear h hf h7 hR hrun hhead
  go_enter Try.func15, Try.ntmps15
  go_wp2_with fail
  refine (FirstR_ok a cap d w HH.out HF.out).mono ?_
  rintro e w1 ⟨v, rfl, hrow, hb1⟩
  have hat : At R 0 w1 v true := .inl ⟨_, by rw [← List.head?_eq_getElem?]; exact HHead.out, rfl, Held.of_row hrow⟩
  have HA := Lib.hid (And.intro hat hb1)
  clear hat hrow hb1
  go_wp2_with fail
  go_loopw [3, 4, 5] (fun s3 s4 s5 wr => ∃ (k : Nat) (b : Bool), k ≤ R.length ∧ s5 = .bool b ∧ s3 = .int .i64 k ∧ Hid (At R k wr s4 b ∧ Below w.heap.size w wr)) (fun s _ _ _ => R.length + 1 - (intOf s).toNat)
  case atStart => exact ⟨0, true, Nat.zero_le _, rfl, rfl, HA⟩
  case round =>
    obtain ⟨k, b, hk, rfl, rfl, H⟩ := hrel
    rcases H.out.1 with ⟨l, hl, rfl, hh⟩ | ⟨hkL, rfl, hv⟩
    · have hlt := (List.getElem?_eq_some_iff.1 hl).1
      have HL := Lib.hid hl
      have HHl := Lib.hid hh
      clear hl hh
      go_wp2_with fail
      refine (step17 HRun.out HL.out HHl.out).mono ?_
      rintro e w2 ⟨v2, b2, rfl, hat2, hb2⟩
      have hnew : At R (k + 1) w2 v2 b2 ∧ Below w.heap.size w w2 := ⟨hat2, H.out.2.trans (hb2.mono H.out.2.size)⟩
      have HNew := Lib.hid hnew
      clear hnew hat2 hb2
      go_wp2
      go_roundw
      case rel => exact ⟨k + 1, b2, by omega, rfl, by go_num, HNew⟩
      case measure => simp [intOf]; omega
    · clear hv
      have HK := Lib.hid hkL
      clear hkL
      go_wp2
      go_ret
      exact ⟨by rw [HK.out]; rfl, H.out.2⟩
end Go.Proofs.Ytiapphhldedckaa.Ex
