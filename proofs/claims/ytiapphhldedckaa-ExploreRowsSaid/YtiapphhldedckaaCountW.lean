/- What the program's check, choose, count and the document's Right answer. -/
import Derived.Test.YtiapphhldedckaaChoosePlain
import Derived.Test.YtiapphhldedckaaNextE
import Derived.WalkLawsBesides
import Derived.IntWalk
namespace Go.Proofs.Ytiapphhldedckaa.Ex
open Go.RowKit Go.Sort Nx
def Odd (x : Int) : Prop := x < 0 ∨ 64 < x
def Fine (d : Array Int) : Prop := ∀ j, j < d.size → ¬ Odd d[j]!
def IdxRes (d : Array Int) (w : World) (e : Ending) (w' : World) : Prop := ∃ r : Int, e = .returned (.int .i64 r) ∧ w = w' ∧ ((r = -1 ∧ Fine d) ∨ (0 ≤ r ∧ ¬ Fine d))
set_option maxHeartbeats 1600000 in
set_option maxRecDepth 1000000 in
theorem odd29 (x : Int) (w : World) (h : Odd x) : Calls Try.prog 29 #[.int .i64 x] w fun e w' => e = .returned (.bool true) ∧ w = w' := by
  unfold Odd at h
  by_cases h1 : x < 0
  · have hd : decide (x < 0) = true := by simpa using h1
    go_enter Try.func29, Try.ntmps29
    go_wp2
    go_ret
    exact ⟨rfl, rfl⟩
  · have hd : decide (x < 0) = false := by simpa using h1
    have h2 : 64 < x := by omega
    clear h
    go_enter Try.func29, Try.ntmps29
    go_wp2
    go_ret
    exact ⟨rfl, rfl⟩
set_option maxHeartbeats 1600000 in
set_option maxRecDepth 1000000 in
theorem even29 (x : Int) (w : World) (h : ¬ Odd x) : Calls Try.prog 29 #[.int .i64 x] w fun e w' => e = .returned (.bool false) ∧ w = w' := by
  unfold Odd at h
  have h1 : ¬ x < 0 := by omega
  have h2 : ¬ 64 < x := by omega
  have hd : decide (x < 0) = false := by simpa using h1
  clear h
  go_enter Try.func29, Try.ntmps29
  go_wp2
  go_ret
  exact ⟨rfl, rfl⟩
set_option maxHeartbeats 1600000 in
set_option maxRecDepth 1000000 in
theorem idx33 (b off cap : Nat) (d : Array Int) (w : World) (hs : d.size ≤ 20) (hr : Reads w b off d) :
    Calls Try.prog 33 #[.slice (some ⟨b, off, none⟩) d.size cap, .func (.func 29) #[] #[]] w (IdxRes d w) := by
  have HR := Lib.hid hr
  clear hr
  go_enter Try.func33, Try.ntmps33
  go_wp2_with fail
  go_loop [8] (fun s => ∃ k : Nat, k ≤ d.size ∧ s = .int .i64 k ∧ Hid (∀ j, j < k → ¬ Odd d[j]!)) (fun s => d.size - (intOf s).toNat)
  case atStart => exact ⟨0, Nat.zero_le _, rfl, Lib.hid (fun j hj => by omega)⟩
  case round =>
    obtain ⟨k, hk, rfl, hall⟩ := hrel
    by_cases hlt : k < d.size
    · have ck := HR.out k hlt
      have h1 : (k : Int) < (d.size : Int) := by omega
      have h0 : (0 : Int) ≤ (k : Int) := by omega
      obtain ⟨x, hx⟩ : ∃ x, d[k]! = x := ⟨_, rfl⟩
      rw [hx] at ck
      have HX := Lib.hid hx
      clear hx
      by_cases ho : Odd x
      · go_wp2_with (go_at_call 29; refine (odd29 _ _ ho).mono ?_; rintro e w' ⟨rfl, rfl⟩)
        go_ret
        exact ⟨k, rfl, rfl, .inr ⟨h0, fun hf => hf k hlt (by rw [HX.out]; exact ho)⟩⟩
      · go_wp2_with (go_at_call 29; refine (even29 _ _ ho).mono ?_; rintro e w' ⟨rfl, rfl⟩)
        go_round
        case rel =>
          refine ⟨k + 1, by omega, by go_num, Lib.hid (fun j hj => ?_)⟩
          rcases Nat.lt_or_ge j k with h | h
          · exact hall.out j h
          · obtain rfl : j = k := by omega
            rw [HX.out]; exact ho
        case measure => simp [intOf]; omega
    · obtain rfl : k = d.size := by omega
      go_wp2
      go_ret
      exact ⟨-1, rfl, rfl, .inl ⟨rfl, hall.out⟩⟩
set_option maxHeartbeats 1600000 in
set_option maxRecDepth 1000000 in
theorem idx33_zero (a : Option Addr) (cap : Nat) (w : World) :
    Calls Try.prog 33 #[.slice a 0 cap, .func (.func 29) #[] #[]] w fun e w' => e = .returned (.int .i64 (-1)) ∧ w = w' := by
  go_enter Try.func33, Try.ntmps33
  go_wp2
  refine wp_loop_rounds 1 ?_
  rw [rounds_succ]
  go_wp2
  go_ret
  exact ⟨rfl, rfl⟩
/-- a slice that reads as integers, an empty one too -/
def SliceOf (w : World) (a : Option Addr) (d : Array Int) : Prop := d.size = 0 ∨ ∃ b off, a = some ⟨b, off, none⟩ ∧ b < w.heap.size ∧ Reads w b off d
theorem SliceOf.below {w w' : World} {a : Option Addr} {d : Array Int} (h : SliceOf w a d) (hb : Below w.heap.size w w') : SliceOf w' a d := by
  rcases h with h | ⟨b, off, rfl, hl, hr⟩
  · exact .inl h
  · exact .inr ⟨b, off, rfl, Nat.lt_of_lt_of_le hl hb.size, fun j hj => (hb.cell (p := ⟨b, off + j, none⟩) hl).trans (hr j hj)⟩
theorem SliceOf.drewN {w : World} {a : Option Addr} {d : Array Int} (h : SliceOf w a d) (n : Nat) : SliceOf (w.drewN n) a d := h
theorem idx_any (a : Option Addr) (cap : Nat) (d : Array Int) (w : World) (hs : d.size ≤ 20) (h : SliceOf w a d) :
    Calls Try.prog 33 #[.slice a d.size cap, .func (.func 29) #[] #[]] w (IdxRes d w) := by
  rcases h with h | ⟨b, off, rfl, _, hr⟩
  · rw [h]
    refine (idx33_zero a cap w).mono ?_
    rintro e w' ⟨rfl, rfl⟩
    exact ⟨-1, rfl, rfl, .inl ⟨rfl, fun j hj => by omega⟩⟩
  · exact idx33 b off cap d w hs hr
set_option maxHeartbeats 1600000 in
set_option maxRecDepth 1000000 in
theorem con_fine (a : Option Addr) (cap : Nat) (d : Array Int) (w : World) (hs : d.size ≤ 20) (h : SliceOf w a d) (hf : Fine d) :
    Calls Try.prog 30 #[.slice a d.size cap, .func (.func 29) #[] #[]] w fun e w' => e = .returned (.bool false) ∧ w = w' := by
  have HH := Lib.hid h
  have HF := Lib.hid hf
  clear h hf
  go_enter Try.func30, Try.ntmps30
  go_wp2_with fail
  refine (idx_any a cap d w hs HH.out).mono ?_
  rintro e w' ⟨r, rfl, rfl, hr⟩
  have hr' : r < 0 := by rcases hr with ⟨h1, _⟩ | ⟨_, h2⟩
                         · omega
                         · exact absurd HF.out h2
  clear hr
  go_wp2
  go_ret
  exact ⟨by simp; omega, rfl⟩
set_option maxHeartbeats 1600000 in
set_option maxRecDepth 1000000 in
theorem con_odd (a : Option Addr) (cap : Nat) (d : Array Int) (w : World) (hs : d.size ≤ 20) (h : SliceOf w a d) (hf : ¬ Fine d) :
    Calls Try.prog 30 #[.slice a d.size cap, .func (.func 29) #[] #[]] w fun e w' => e = .returned (.bool true) ∧ w = w' := by
  have HH := Lib.hid h
  have HF := Lib.hid hf
  clear h hf
  go_enter Try.func30, Try.ntmps30
  go_wp2_with fail
  refine (idx_any a cap d w hs HH.out).mono ?_
  rintro e w' ⟨r, rfl, rfl, hr⟩
  have hr' : 0 ≤ r := by rcases hr with ⟨_, h1⟩ | ⟨h2, _⟩
                         · exact absurd h1 HF.out
                         · exact h2
  clear hr
  go_wp2
  go_ret
  exact ⟨by simp, rfl⟩
/-- may counts be? -/
def Right (d : Array Int) : Prop := d.size ≤ 8 ∧ Fine d
set_option maxHeartbeats 1600000 in
set_option maxRecDepth 1000000 in
theorem check_ok (a : Option Addr) (cap : Nat) (d : Array Int) (w : World) (h : SliceOf w a d) (hf : Right d) :
    Calls Try.prog 21 #[.slice a d.size cap] w fun e w' => e = .returned (.int .i64 0) ∧ w = w' := by
  have h8 := hf.1
  have HH := Lib.hid h
  have HF := Lib.hid hf.2
  have hd : decide ((8 : Int) < (d.size : Int)) = false := by simp; omega
  clear h hf
  go_enter Try.func21, Try.ntmps21
  go_wp2_with fail
  refine (con_fine a cap d w (by omega) HH.out HF.out).mono ?_
  rintro e w' ⟨rfl, rfl⟩
  go_wp2
  go_ret
  exact ⟨rfl, rfl⟩
set_option maxHeartbeats 1600000 in
set_option maxRecDepth 1000000 in
theorem check_bad (a : Option Addr) (cap : Nat) (d : Array Int) (w : World) (hs : d.size ≤ 20) (h : SliceOf w a d) (hf : ¬ Right d) :
    Calls Try.prog 21 #[.slice a d.size cap] w fun e w' => e = .returned (.int .i64 1) ∧ w = w' := by
  by_cases h8 : d.size ≤ 8
  · have hd : decide ((8 : Int) < (d.size : Int)) = false := by simp; omega
    have HH := Lib.hid h
    have hf2 : ¬ Fine d := fun hx => hf ⟨h8, hx⟩
    have HF := Lib.hid hf2
    clear h hf hf2
    go_enter Try.func21, Try.ntmps21
    go_wp2_with fail
    refine (con_odd a cap d w hs HH.out HF.out).mono ?_
    rintro e w' ⟨rfl, rfl⟩
    go_wp2
    go_ret
    exact ⟨rfl, rfl⟩
  · have hd : decide ((8 : Int) < (d.size : Int)) = true := by simp; omega
    clear h hf
    go_enter Try.func21, Try.ntmps21
    go_wp2
    go_ret
    exact ⟨rfl, rfl⟩
end Go.Proofs.Ytiapphhldedckaa.Ex
