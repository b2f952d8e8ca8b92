/- The program's Does. -/
import Derived.Test.YtkbbpjknakajeaaStep2
namespace Go.Proofs.Ytkbbpjknakajeaa.Li
open Go.RowKit Go.Shelf Go.Sort
/-- the queue behind the first k calls of the row; none: a queue does not do them -/
def run (l : Array QOp) (d : Array Int) : Nat → Option (Array Int)
  | 0 => some #[]
  | k + 1 => (run l d k).bind (fun q => stepA q (at_ l d k))
theorem stepA_size {q q' : Array Int} {x : QOp} (h : stepA q x = some q') : q'.size ≤ q.size + 1 := by
  unfold stepA at h
  split at h
  · cases h; simp
  · split at h
    · split at h
      · cases h; omega
      · cases h
    · split at h
      · cases h
      · split at h
        · cases h; simp; omega
        · cases h
theorem run_size {l : Array QOp} {d : Array Int} : ∀ {k : Nat} {q : Array Int}, run l d k = some q → q.size ≤ k
  | 0, q, h => by cases h; simp
  | k + 1, q, h => by
    simp only [run] at h
    cases hk : run l d k with
    | none => rw [hk] at h; cases h
    | some q0 => rw [hk] at h; have := run_size hk; have := stepA_size h; omega
theorem run_none {l : Array QOp} {d : Array Int} {k : Nat} (h : run l d k = none) : ∀ j, run l d (k + j) = none
  | 0 => h
  | j + 1 => by rw [Nat.add_succ, run, run_none h j]; rfl
/-- a queue does all the calls of the row -/
def Plays (l : Array QOp) (d : Array Int) : Prop := run l d d.size ≠ none

set_option maxHeartbeats 1600000 in
set_option maxRecDepth 1000000 in
theorem does_no (al ad : Option Addr) (n cl m cap : Nat) (_hn : n ≤ 1000) (_hm : m ≤ 1000) (w : World) (c34 : Calls Try.prog 34 #[.int .i64 n, .slice ad m cap] w (Says False w)) :
    Calls Try.prog 13 #[.slice al n cl, .slice ad m cap] w (Says False w) := by
  go_enter Try.func13, Try.ntmps13
  go_wp2_with (go_at_call 34; refine c34.mono ?_; clear c34; rintro e w' ⟨r, rfl, hrQ, hB⟩; have HB := Lib.hid hB; (obtain rfl : r = false := by cases r; rfl; exact (hrQ.1 rfl).elim); clear hB hrQ)
  go_ret
  exact ⟨false, rfl, by simp, HB.out⟩
set_option maxHeartbeats 1600000 in
set_option maxRecDepth 1000000 in
theorem does_nil (al ad : Option Addr) (n cl cap : Nat) (_hn : n ≤ 1000) (w : World) (c34 : Calls Try.prog 34 #[.int .i64 n, .slice ad 0 cap] w (Says True w)) :
    Calls Try.prog 13 #[.slice al n cl, .slice ad 0 cap] w (Says True w) := by
  go_enter Try.func13, Try.ntmps13
  go_wp2_with (go_at_call 34; refine c34.mono ?_; clear c34; rintro e w' ⟨r, rfl, hrQ, hB⟩; have HB := Lib.hid hB; (obtain rfl := hrQ.2 trivial); clear hB hrQ)
  refine wp_loop_rounds 1 ?_
  rw [rounds_succ]
  go_wp2
  go_ret
  exact ⟨true, rfl, by simp, HB.out⟩

set_option maxHeartbeats 3200000 in
set_option maxRecDepth 1000000 in
theorem does_some (bl ol cl b off cap : Nat) (l : Array QOp) (d : Array Int) (hs : d.size ≤ 1000) (_hn : l.size ≤ 1000) (w : World) (hb : b < w.heap.size) (hbl : bl < w.heap.size)
    (hq : ReadsQ w bl ol l) (hr : Reads w b off d) {Q : Prop} (hin : Q → Within l.size d)
    (c34 : Calls Try.prog 34 #[.int .i64 l.size, .slice (some ⟨b, off, none⟩) d.size cap] w (Says Q w)) :
    Calls Try.prog 13 #[.slice (some ⟨bl, ol, none⟩) l.size cl, .slice (some ⟨b, off, none⟩) d.size cap] w (Says (Q ∧ Plays l d) w) := by
  have HR := Lib.hid hr
  have HQ := Lib.hid hq
  have HIQ := Lib.hid hin
  clear hr hq hin
  go_enter Try.func13, Try.ntmps13
  go_wp2_with (go_at_call 34; refine c34.mono ?_; clear c34; rintro e w' ⟨r, rfl, hrQ, hB⟩; have HB := Lib.hid hB; have HRQ := Lib.hid hrQ; clear hB hrQ; cases r)
  · go_ret
    exact ⟨false, rfl, ⟨fun h => absurd h (by decide), fun h => absurd (HRQ.out.2 h.1) (by decide)⟩, HB.out⟩
  · have hQ := Lib.hid (show Q by have := HRQ.out; simpa using this)
    have HI := Lib.hid (HIQ.out hQ.out)
    clear HRQ HIQ
    go_loopw [5, 17] (fun s t wr => ∃ (k : Nat) (a : Option Addr) (qc : Nat) (q : Array Int), k ≤ d.size ∧ t = .int .i64 k ∧ s = .slice a q.size qc ∧ Hid (run l d k = some q) ∧ Hid (Good wr a qc q) ∧ Hid (Below w.heap.size w wr)) (fun _ t _ => d.size - (intOf t).toNat)
    case atStart => exact ⟨0, none, 0, #[], Nat.zero_le _, rfl, rfl, Lib.hid rfl, Lib.hid (.inl ⟨rfl, rfl, rfl⟩), HB⟩
    case round =>
      obtain ⟨k, a, qc, q, hk, rfl, rfl, hrun, hgood, hbel⟩ := hrel
      by_cases hlt : k < d.size
      · have ck := (HR.out.below hb hbel.out) k hlt
        have h1 : (k : Int) < (d.size : Int) := by omega
        have h2 : (0 : Int) ≤ (k : Int) := by omega
        obtain ⟨hx0, hx1⟩ := HI.out k hlt
        obtain ⟨m, hm⟩ : ∃ m : Nat, d[k]! = (m : Int) := ⟨(d[k]!).toNat, by omega⟩
        rw [hm] at ck hx0 hx1
        have hml : m < l.size := by omega
        have hat : at_ l d k = l[m]! := by rw [at_, hm]; rfl
        obtain ⟨cp, cv, cf, ct⟩ := (HQ.out.below hbl hbel.out) m hml
        obtain ⟨x, hx⟩ : ∃ x, l[m]! = x := ⟨_, rfl⟩
        rw [hx] at cp cv cf ct hat
        have hqs : q.size ≤ 1000 := by have := run_size hrun.out; omega
        have cS := step_any a qc q x hqs wr hgood.out
        have HX := Lib.hid hat
        clear hat hm hx
        obtain ⟨o, ho⟩ : ∃ o, stepA q x = o := ⟨_, rfl⟩
        rw [ho] at cS
        have HO := Lib.hid ho
        clear ho
        cases o with
        | none =>
          have cN : Calls Try.prog 35 #[.slice a q.size qc, x.val] wr (Refused wr) := cS
          clear cS
          go_wp2_with (go_at_call 35; refine cN.mono ?_; clear cN; rintro e w2 ⟨v2, rfl, hb2⟩; have HB2 := Lib.hid hb2; clear hb2)
          go_ret
          refine ⟨false, rfl, ⟨fun h => absurd h (by decide), fun h => ?_⟩, hbel.out.trans (HB2.out.mono hbel.out.size)⟩
          have hnn : run l d (k + 1) = none := by rw [run, hrun.out, Option.bind_some, HX.out, HO.out]
          have := run_none hnn (d.size - (k + 1))
          rw [show k + 1 + (d.size - (k + 1)) = d.size from by omega] at this
          exact absurd this h.2
        | some q2 =>
          have cN : Calls Try.prog 35 #[.slice a q.size qc, x.val] wr (Stepped wr q2) := cS
          clear cS
          go_wp2_with (go_at_call 35; refine cN.mono ?_; clear cN; rintro e w2 ⟨a2, c2, rfl, hg2, hb2⟩; have HB2 := Lib.hid hb2; have HG2 := Lib.hid hg2; clear hb2 hg2)
          go_roundw
          case rel => exact ⟨k + 1, a2, c2, q2, by omega, by go_num, rfl, Lib.hid (by rw [run, hrun.out, Option.bind_some, HX.out, HO.out]), HG2, Lib.hid (hbel.out.trans (HB2.out.mono hbel.out.size))⟩
          case measure => simp [intOf]; omega
      · obtain rfl : k = d.size := by omega
        go_wp2
        go_ret
        exact ⟨true, rfl, ⟨fun _ => ⟨hQ.out, by rw [Plays, hrun.out]; simp⟩, fun _ => rfl⟩, hbel.out⟩

end Go.Proofs.Ytkbbpjknakajeaa.Li
