/- The program's Fits. -/
import Derived.Test.YtkbbpjknakajeaaOnceR
namespace Go.Proofs.Ytkbbpjknakajeaa.Li
open Go.RowKit Go.Shelf Go.Sort

/-- a call of a history -/
structure QOp where
  put : Bool
  value : Int
  fr : Int
  to : Int
instance : Inhabited QOp := ⟨⟨false, 0, 0, 0⟩⟩
/-- a row of calls, read -/
def ReadsQ (w : World) (b off : Nat) (l : Array QOp) : Prop := ∀ j, j < l.size →
  w.cell? ⟨b, off + j * 4, none⟩ = some (.bool l[j]!.put) ∧ w.cell? ⟨b, off + j * 4 + 1, none⟩ = some (.int .i64 l[j]!.value) ∧
  w.cell? ⟨b, off + j * 4 + 2, none⟩ = some (.int .i64 l[j]!.fr) ∧ w.cell? ⟨b, off + j * 4 + 3, none⟩ = some (.int .i64 l[j]!.to)
def SliceOfQ (w : World) (a : Option Addr) (l : Array QOp) : Prop := l.size = 0 ∨ ∃ b off, a = some ⟨b, off, none⟩ ∧ b < w.heap.size ∧ ReadsQ w b off l
theorem ReadsQ.below {w w' : World} {b off : Nat} {l : Array QOp} (h : ReadsQ w b off l) (hl : b < w.heap.size) (hb : Below w.heap.size w w') : ReadsQ w' b off l :=
  fun j hj => ⟨(hb.cell (p := ⟨b, off + j * 4, none⟩) hl).trans (h j hj).1, (hb.cell (p := ⟨b, off + j * 4 + 1, none⟩) hl).trans (h j hj).2.1,
    (hb.cell (p := ⟨b, off + j * 4 + 2, none⟩) hl).trans (h j hj).2.2.1, (hb.cell (p := ⟨b, off + j * 4 + 3, none⟩) hl).trans (h j hj).2.2.2⟩
/-- every number is a place in the list -/
def Within (n : Nat) (d : Array Int) : Prop := ∀ k, k < d.size → 0 ≤ d[k]! ∧ d[k]! < (n : Int)
/-- the call at place k of the row -/
def at_ (l : Array QOp) (d : Array Int) (k : Nat) : QOp := l[(d[k]!).toNat]!
/-- the greatest From among the first k -/
def lat (l : Array QOp) (d : Array Int) : Nat → Int
  | 0 => 0
  | k + 1 => if k = 0 ∨ lat l d k < (at_ l d k).fr then (at_ l d k).fr else lat l d k
def FitsM (l : Array QOp) (d : Array Int) (m : Nat) : Prop := ∀ k, k < m → 0 < k → ¬ (at_ l d k).to < lat l d k

set_option maxHeartbeats 3200000 in
set_option maxRecDepth 1000000 in
theorem fits_some (bl ol cl b off cap : Nat) (l : Array QOp) (d : Array Int) (hs : d.size ≤ 1000) (_hn : l.size ≤ 1000) (w : World) (hb : b < w.heap.size) (hbl : bl < w.heap.size) (hq : ReadsQ w bl ol l) (hr : Reads w b off d) {Q : Prop} (hin : Q → Within l.size d)
    (c34 : Calls Try.prog 34 #[.int .i64 l.size, .slice (some ⟨b, off, none⟩) d.size cap] w (Says Q w)) :
    Calls Try.prog 12 #[.slice (some ⟨bl, ol, none⟩) l.size cl, .slice (some ⟨b, off, none⟩) d.size cap] w (Says (Q ∧ FitsM l d d.size) w) := by
  have HR := Lib.hid hr
  have HQ := Lib.hid hq
  have HIQ := Lib.hid hin
  clear hr hq hin
  go_enter Try.func12, Try.ntmps12
  go_wp2_with (go_at_call 34; refine c34.mono ?_; clear c34; rintro e w' ⟨r, rfl, hrQ, hB⟩; have HB := Lib.hid hB; have HRQ := Lib.hid hrQ; clear hB hrQ; cases r)
  · go_ret
    exact ⟨false, rfl, ⟨fun h => absurd h (by decide), fun h => absurd (HRQ.out.2 h.1) (by decide)⟩, HB.out⟩
  · have hQ := Lib.hid (show Q by have := HRQ.out; simpa using this)
    have HI := Lib.hid (HIQ.out hQ.out)
    clear HIQ
    clear HRQ
    have HR2 := Lib.hid (HR.out.below hb HB.out)
    have HQ2 := Lib.hid (HQ.out.below hbl HB.out)
    clear HR HQ
    go_loop [5, 15] (fun s t => ∃ k : Nat, k ≤ d.size ∧ t = .int .i64 k ∧ s = .int .i64 (lat l d k) ∧ Hid (FitsM l d k)) (fun _ t => d.size - (intOf t).toNat)
    case atStart => exact ⟨0, Nat.zero_le _, rfl, rfl, Lib.hid (fun j hj => by omega)⟩
    case round =>
      obtain ⟨k, hk, rfl, rfl, hall⟩ := hrel
      by_cases hlt : k < d.size
      · have ck := HR2.out k hlt
        have h1 : (k : Int) < (d.size : Int) := by omega
        have h2 : (0 : Int) ≤ (k : Int) := by omega
        obtain ⟨hx0, hx1⟩ := HI.out k hlt
        obtain ⟨m, hm⟩ : ∃ m : Nat, d[k]! = (m : Int) := ⟨(d[k]!).toNat, by omega⟩
        rw [hm] at ck hx0 hx1
        have hml : m < l.size := by omega
        have hat : at_ l d k = l[m]! := by rw [at_, hm]; rfl
        obtain ⟨_, _, cf, ct⟩ := HQ2.out m hml
        obtain ⟨f, hf⟩ : ∃ f, l[m]!.fr = f := ⟨_, rfl⟩
        obtain ⟨t, ht⟩ : ∃ t, l[m]!.to = t := ⟨_, rfl⟩
        obtain ⟨la, hla⟩ : ∃ la, lat l d k = la := ⟨_, rfl⟩
        rw [hf] at cf
        rw [ht] at ct
        rw [hla]
        have HX := Lib.hid (And.intro hat (And.intro hf (And.intro ht hla)))
        clear hat hf ht hla hm
        rcases Nat.eq_zero_or_pos k with hk0 | hk0
        · subst hk0
          rw [Nat.add_zero] at ck
          go_wp2
          go_round
          case rel =>
            obtain ⟨e1, e2, e3, e4⟩ := HX.out
            exact ⟨1, by omega, rfl, by simp [lat, e1, e2], Lib.hid (fun j hj h0 => by omega)⟩
          case measure => simp [intOf]; omega
        · have h3 : (0 : Int) < (k : Int) := by omega
          have h4 : ¬ (k : Int) = 0 := by omega
          have h5 : ¬ k = 0 := by omega
          by_cases ht : t < la
          · go_wp2
            go_ret
            refine ⟨false, rfl, ⟨fun h => absurd h (by decide), fun h => ?_⟩, HB.out⟩
            obtain ⟨e1, e2, e3, e4⟩ := HX.out
            exact absurd ht (by have := h.2 k hlt hk0; rwa [e1, e3, e4] at this)
          · have hd : decide (t < la) = false := by simpa using ht
            by_cases hf : la < f
            · go_wp2
              go_round
              case rel =>
                obtain ⟨e1, e2, e3, e4⟩ := HX.out
                refine ⟨k + 1, by omega, by go_num, by simp [lat, e1, e2, e4, hf], Lib.hid (fun j hj h0 => ?_)⟩
                rcases Nat.lt_or_ge j k with h | h
                · exact hall.out j h h0
                · obtain rfl : j = k := by omega
                  rw [e1, e3, e4]; exact ht
              case measure => simp [intOf]; omega
            · have hd2 : decide (la < f) = false := by simpa using hf
              go_wp2
              go_round
              case rel =>
                obtain ⟨e1, e2, e3, e4⟩ := HX.out
                refine ⟨k + 1, by omega, by go_num, by simp [lat, e1, e2, e4, hf, h5], Lib.hid (fun j hj h0 => ?_)⟩
                rcases Nat.lt_or_ge j k with h | h
                · exact hall.out j h h0
                · obtain rfl : j = k := by omega
                  rw [e1, e3, e4]; exact ht
              case measure => simp [intOf]; omega
      · obtain rfl : k = d.size := by omega
        go_wp2
        go_ret
        exact ⟨true, rfl, ⟨fun _ => ⟨hQ.out, hall.out⟩, fun _ => rfl⟩, HB.out⟩

set_option maxHeartbeats 1600000 in
set_option maxRecDepth 1000000 in
theorem fits_no (al ad : Option Addr) (n cl m cap : Nat) (_hn : n ≤ 1000) (_hm : m ≤ 1000) (w : World) (c34 : Calls Try.prog 34 #[.int .i64 n, .slice ad m cap] w (Says False w)) :
    Calls Try.prog 12 #[.slice al n cl, .slice ad m cap] w (Says False w) := by
  go_enter Try.func12, Try.ntmps12
  go_wp2_with (go_at_call 34; refine c34.mono ?_; clear c34; rintro e w' ⟨r, rfl, hrQ, hB⟩; have HB := Lib.hid hB; (obtain rfl : r = false := by cases r; rfl; exact (hrQ.1 rfl).elim); clear hB hrQ)
  go_ret
  exact ⟨false, rfl, by simp, HB.out⟩
set_option maxHeartbeats 1600000 in
set_option maxRecDepth 1000000 in
theorem fits_nil (al ad : Option Addr) (n cl cap : Nat) (_hn : n ≤ 1000) (w : World) (c34 : Calls Try.prog 34 #[.int .i64 n, .slice ad 0 cap] w (Says True w)) :
    Calls Try.prog 12 #[.slice al n cl, .slice ad 0 cap] w (Says True w) := by
  go_enter Try.func12, Try.ntmps12
  go_wp2_with (go_at_call 34; refine c34.mono ?_; clear c34; rintro e w' ⟨r, rfl, hrQ, hB⟩; have HB := Lib.hid hB; (obtain rfl := hrQ.2 trivial); clear hB hrQ)
  refine wp_loop_rounds 1 ?_
  rw [rounds_succ]
  go_wp2
  go_ret
  exact ⟨true, rfl, by simp, HB.out⟩

end Go.Proofs.Ytkbbpjknakajeaa.Li
