/- LinearRows at every two slices. -/
import Derived.Test.YtkbbpjknakajeaaLawB
import Derived.Test.YtkbbpjknakajeaaPlays
namespace Go.Proofs.Ytkbbpjknakajeaa.Li
open Go.RowKit Go.Shelf Go.Sort
theorem says_iff {P Q : Prop} (h : P ↔ Q) {w : World} : ∀ e w', Says P w e w' → Says Q w e w' := fun _ _ ⟨r, h1, h2, h3⟩ => ⟨r, h1, h2.trans h, h3⟩
set_option maxHeartbeats 1600000 in
set_option maxRecDepth 1000000 in
theorem plays_nil (al ad : Option Addr) (n cl cap : Nat) (_hn : n ≤ 1000) (w : World) : Calls Try.prog 33 #[.slice al n cl, .slice ad 0 cap] w (Says True w) := by
  go_enter Try.func33, Try.ntmps33
  go_wp2
  refine wp_loop_rounds 1 ?_
  rw [rounds_succ]
  go_wp2
  go_ret
  exact ⟨true, rfl, by simp, Below.refl _ _⟩
theorem SliceOfQ.below {w w' : World} {a : Option Addr} {l : Array QOp} (h : SliceOfQ w a l) (hb : Below w.heap.size w w') : SliceOfQ w' a l := by
  rcases h with h | ⟨b, off, rfl, hl, hr⟩
  · exact .inl h
  · exact .inr ⟨b, off, rfl, Nat.lt_of_lt_of_le hl hb.size, hr.below hl hb⟩
/-- the onces say no: so do all four -/
theorem law_no (al ad : Option Addr) (n cl m cap : Nat) (hn : n ≤ 60) (hm : m ≤ 60) (w : World)
    (c34 : ∀ W, Below w.heap.size w W → Calls Try.prog 34 #[.int .i64 n, .slice ad m cap] W (Says False W))
    (c36 : ∀ W, Below w.heap.size w W → Calls Try.prog 36 #[.int .i64 n, .slice ad m cap] W (Says False W)) :
    Calls Try.prog 4 #[.slice al n cl, .slice ad m cap] w fun e w' => e = .returned (.bool true) ∧ Below w.heap.size w w' :=
  lawRows_short al ad n cl m cap hn hm w (A := False) (B := False)
    (fun W hW => fits_no al ad n cl m cap (by omega) (by omega) W (c34 W hW))
    (fun W hW => fitsR_no al ad n cl m cap (by omega) (by omega) W (c36 W hW))
    (fun W hW => does_no al ad n cl m cap (by omega) (by omega) W (c34 W hW))
    (fun W hW => (doesR_any al ad n cl m cap (by omega) (by omega) W (Q := False) (R := True) (c36 W hW) (fun _ _ h => h.elim)).mono (says_iff (by simp)))
theorem law_any (al ad : Option Addr) (cl cap : Nat) (l : Array QOp) (d : Array Int) (hl : l.size ≤ 60) (hd : d.size ≤ 60) (hc : d.size ≤ cap) (w : World) (hq : SliceOfQ w al l) (hr : SliceOf w ad d) :
    Calls Try.prog 4 #[.slice al l.size cl, .slice ad d.size cap] w fun e w' => e = .returned (.bool true) ∧ Below w.heap.size w w' := by
  by_cases hd0 : d.size = 0
  · rw [hd0]
    by_cases hl0 : l.size = 0
    · rw [hl0]
      have c34 : ∀ W, Calls Try.prog 34 #[.int .i64 ((0 : Nat) : Int), .slice ad 0 cap] W (Says True W) := fun W => (once_none 0 cap ad W).mono (says_iff (by simp))
      have c36 : ∀ W, Calls Try.prog 36 #[.int .i64 ((0 : Nat) : Int), .slice ad 0 cap] W (Says True W) := fun W => onceR_none cap ad W
      exact lawRows_short al ad 0 cl 0 cap (by omega) (by omega) w (A := True) (B := True)
        (fun W _ => fits_nil al ad 0 cl cap (by omega) W (c34 W)) (fun W _ => fitsR_nil al ad 0 cl cap (by omega) W (c36 W)) (fun W _ => does_nil al ad 0 cl cap (by omega) W (c34 W))
        (fun W _ => (doesR_any al ad 0 cl 0 cap (by omega) (by omega) W (Q := True) (R := True) (c36 W) (fun W2 _ _ => plays_nil al ad 0 cl cap (by omega) W2)).mono (says_iff (by simp)))
    · exact law_no al ad l.size cl 0 cap hl (by omega) w (fun W _ => (once_none l.size cap ad W).mono (says_iff (by simp; simpa using hl0))) (fun W _ => onceR_len l.size 0 cap ad W (by omega) (by omega) (by omega))
  · rcases hr with h | ⟨b, off, rfl, hb, hr⟩
    · exact absurd h hd0
    · have c34 : ∀ W, Below w.heap.size w W → Calls Try.prog 34 #[.int .i64 l.size, .slice (some ⟨b, off, none⟩) d.size cap] W (Says (OnceRes l.size d) W) :=
        fun W hW => once_some l.size b off cap d (by omega) (by omega) W (Nat.lt_of_lt_of_le hb hW.size) (hr.below hb hW)
      by_cases hsz : d.size = l.size
      · have c36 : ∀ W, Below w.heap.size w W → Calls Try.prog 36 #[.int .i64 l.size, .slice (some ⟨b, off, none⟩) d.size cap] W (Says (OnceRes l.size d) W) := fun W hW => by
          have := onceR_some b off cap d (by omega) W (hr.below hb hW)
          rw [hsz] at this ⊢
          exact this.mono (says_iff once_iff.symm)
        rcases hq with h | ⟨bl, ol, rfl, hbl, hq⟩
        · omega
        · have lt : ∀ W, Below w.heap.size w W → b < W.heap.size ∧ bl < W.heap.size := fun W hW => ⟨Nat.lt_of_lt_of_le hb hW.size, Nat.lt_of_lt_of_le hbl hW.size⟩
          exact lawRows_short _ _ l.size cl d.size cap hl hd w (A := OnceRes l.size d ∧ FitsM l d d.size) (B := OnceRes l.size d ∧ Plays l d)
            (fun W hW => fits_some bl ol cl b off cap l d (by omega) (by omega) W (lt W hW).1 (lt W hW).2 (hq.below hbl hW) (hr.below hb hW) once_within (c34 W hW))
            (fun W hW => (fitsR_some bl ol cl b off cap l d (by omega) hc (by omega) W (lt W hW).1 (lt W hW).2 (hq.below hbl hW) (hr.below hb hW) once_within (c36 W hW)).mono (says_iff (by rw [fits_iff])))
            (fun W hW => does_some bl ol cl b off cap l d (by omega) (by omega) W (lt W hW).1 (lt W hW).2 (hq.below hbl hW) (hr.below hb hW) once_within (c34 W hW))
            (fun W hW => doesR_any _ _ l.size cl d.size cap (by omega) (by omega) W (c36 W hW) (fun W2 hW2 hQ => by
              have hB := hW.trans (hW2.mono hW.size)
              exact plays_some bl ol cl b off cap l d (by omega) (by omega) W2 (lt W2 hB).1 (lt W2 hB).2 (hq.below hbl hB) (hr.below hb hB) (once_within hQ)))
      · exact law_no al _ l.size cl d.size cap hl hd w (fun W hW => (c34 W hW).mono (says_iff (by simp only [OnceRes, hsz, false_and]))) (fun W _ => onceR_len l.size d.size cap _ W hsz (by omega) (by omega))
end Go.Proofs.Ytkbbpjknakajeaa.Li
