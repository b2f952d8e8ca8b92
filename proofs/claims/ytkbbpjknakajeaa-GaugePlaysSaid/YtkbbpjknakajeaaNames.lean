/- Which texts are names: for the program and for the document. -/
import Derived.Test.YtkbbpjknakajeaaProg
import Derived.Test.YtkbbpjknakajeaaAETop
import Derived.WalkKit
import Derived.Laws.RangeAny
import Derived.Laws.RangeString
import Derived.Laws.Strings
import Derived.Laws.Strings2
import Derived.Laws.Strings3
import Derived.Lib.Hide
namespace Go.Proofs.Ytkbbpjknakajeaa
open Go Go.RowKit
/-- a truth value that tells whether p -/
def RB (e : Ending) (p : Prop) : Prop := ∃ b : Bool, e = .returned (.bool b) ∧ (b = true ↔ p)
/-- a number, below 0 unless p -/
def RI (e : Ending) (p : Prop) : Prop := ∃ r : Int, e = .returned (.int .i64 r) ∧ (r ≥ 0 ↔ p)
def okc (c : Int) : Bool := decide ((97 ≤ c ∧ c ≤ 122) ∨ (48 ≤ c ∧ c ≤ 57) ∨ c = 45)
theorem okc_true {c : Int} (h : (97 ≤ c ∧ c ≤ 122) ∨ (48 ≤ c ∧ c ≤ 57) ∨ c = 45) : okc c = true := decide_eq_true h
theorem okc_false {c : Int} (h : ¬ ((97 ≤ c ∧ c ≤ 122) ∨ (48 ≤ c ∧ c ≤ 57) ∨ c = 45)) : okc c = false := decide_eq_false h
def byte (s : ByteArray) (i : Nat) : Nat := (s.data.toList.getD i 0).toNat
/-- every byte may stand in a name -/
def AllOk (s : ByteArray) (n : Nat) : Prop := ∀ i, i < n → okc (byte s i) = true
set_option maxRecDepth 1000000 in
set_option maxHeartbeats 1600000 in
theorem odd_any (c : Int) (w : World) : Calls Try.prog 44 #[.int .i32 c] w fun e w' => e = .returned (.bool (!okc c)) ∧ w' = w := by
  by_cases a1 : c ≥ 97
  · by_cases a2 : c ≤ 122
    · rw [okc_true (by omega)]
      go_enter Try.func44, Try.ntmps44
      go_wp2
      go_ret
      exact ⟨rfl, rfl⟩
    · have a3 : c ≥ 48 := by omega
      have a4 : ¬ c ≤ 57 := by omega
      have a5 : (c == 45) = false := by simp; omega
      rw [okc_false (by omega)]
      go_enter Try.func44, Try.ntmps44
      go_wp2
      go_ret
      exact ⟨by simp, rfl⟩
  · by_cases a3 : c ≥ 48
    · by_cases a4 : c ≤ 57
      · rw [okc_true (by omega)]
        go_enter Try.func44, Try.ntmps44
        go_wp2
        go_ret
        exact ⟨rfl, rfl⟩
      · have a5 : ¬ c = 45 := by omega
        rw [okc_false (by omega)]
        go_enter Try.func44, Try.ntmps44
        go_wp2
        go_ret
        exact ⟨by simp [a5], rfl⟩
    · by_cases a5' : c = 45
      · have a5 : (c == 45) = true := by simp [a5']
        rw [okc_true (by omega)]
        go_enter Try.func44, Try.ntmps44
        go_wp2
        go_ret
        exact ⟨by simp, rfl⟩
      · have a5 : (c == 45) = false := by simp [a5']
        rw [okc_false (by omega)]
        clear a5'
        go_enter Try.func44, Try.ntmps44
        go_wp2
        go_ret
        exact ⟨by simp, rfl⟩
theorem byte_at (s : ByteArray) (i : Nat) (h : i < s.size) : (s[i]'h).toNat = byte s i := by
  unfold byte
  obtain ⟨⟨l⟩⟩ := s
  have h' : i < l.length := h
  simp [List.getD, List.getElem?_eq_getElem h']
  rfl
set_option maxRecDepth 1000000 in
set_option maxHeartbeats 1600000 in
theorem index_any (s : ByteArray) (w : World) : Calls Try.prog 75 #[.string s, .func (.func 44) #[] #[], .bool true] w fun e w' => RI e (¬ AllOk s s.size) ∧ Below w.heap.size w w' := by
  go_enter Try.func75, Try.ntmps75
  go_wp2
  go_loopw [6] (fun v wr => ∃ pos : Nat, wr = w.iter s pos ∧ v = .int .i64 0 ∧ pos ≤ s.size ∧ Hid (AllOk s pos)) (fun _ wr => s.size - wr.iterPos w.heap.size)
  case atStart => exact ⟨0, rfl, rfl, Nat.zero_le _, Lib.hid (fun i hi => by omega)⟩
  case round =>
    obtain ⟨pos, rfl, rfl, hle, hall⟩ := hrel
    have hbel : Hid (∀ q, Below w.heap.size w (w.iter s q)) := Lib.hid (fun q => (Below.refl _ w).alloc (Nat.le_refl _) _)
    by_cases hp : pos < s.size
    · have hnx : ∀ ty, (Instr.next (.pointer (some ⟨w.heap.size, 0, none⟩)) true ty).run Try.prog (w.iter s pos) = _ := fun ty => run_next_any w s pos ty hp
      have hb := byte_at s pos hp
      by_cases hlow : byte s pos < 128
      · have hdec := decode_ascii s pos hp (by rw [hb]; exact hlow)
        rw [hb] at hdec
        rw [hdec] at hnx
        simp only at hnx
        obtain ⟨c, hc⟩ : ∃ c, byte s pos = c := ⟨_, rfl⟩
        rw [hc] at hnx
        have HC := Lib.hid hc
        clear hc hb hdec hlow
        cases hok : okc (c : Int) with
        | true =>
          have co := fun w => odd_any (c : Int) w
          rw [hok] at co
          have HO := Lib.hid hok
          clear hok
          go_wp2_with (go_at_call 44; refine (co _).mono ?_; rintro e w2 ⟨rfl, rfl⟩)
          go_roundw
          case rel =>
            refine ⟨pos + 1, rfl, rfl, by omega, Lib.hid (fun i hi => ?_)⟩
            rcases Nat.lt_or_ge i pos with h | h
            · exact hall.out i h
            · obtain rfl : i = pos := by omega
              rw [HC.out]; exact HO.out
          case measure => simp; omega
        | false =>
          have co := fun w => odd_any (c : Int) w
          rw [hok] at co
          have HO := Lib.hid hok
          clear hok
          go_wp2_with (go_at_call 44; refine (co _).mono ?_; rintro e w2 ⟨rfl, rfl⟩)
          go_ret
          refine ⟨⟨_, rfl, fun _ h => ?_, fun _ => by omega⟩, hbel.out _⟩
          have := h pos hp
          rw [HC.out, HO.out] at this
          cases this
      · obtain ⟨h1, h2⟩ := decode_high s pos hp (by rw [hb]; omega)
        obtain ⟨c, hc⟩ : ∃ c, (Utf8.decode s pos).1 = c := ⟨_, rfl⟩
        obtain ⟨wd, hwd⟩ : ∃ wd, (Utf8.decode s pos).2 = wd := ⟨_, rfl⟩
        rw [hc, hwd] at hnx
        rw [hc] at h1
        have co := fun w => odd_any (c : Int) w
        rw [okc_false (by omega)] at co
        have HN := Lib.hid (show ¬ AllOk s s.size from fun h => by
          have := h pos hp
          rw [okc_false (by omega)] at this
          cases this)
        clear hlow hb h1 h2 hc hwd
        go_wp2_with (go_at_call 44; refine (co _).mono ?_; rintro e w2 ⟨rfl, rfl⟩)
        go_ret
        exact ⟨⟨_, rfl, fun _ => HN.out, fun _ => by omega⟩, hbel.out _⟩
    · have hnx : ∀ ty, (Instr.next (.pointer (some ⟨w.heap.size, 0, none⟩)) true ty).run Try.prog (w.iter s pos) = _ := fun ty => run_next_end w s pos ty hp
      go_wp2
      go_ret
      obtain rfl : pos = s.size := by omega
      exact ⟨⟨_, rfl, fun h => by omega, fun h => absurd hall.out h⟩, hbel.out _⟩
set_option maxRecDepth 1000000 in
theorem contains_any (s : ByteArray) (w : World) : Calls Try.prog 45 #[.string s, .func (.func 44) #[] #[]] w fun e w' => RB e (¬ AllOk s s.size) ∧ Below w.heap.size w w' := by
  have c58 : ∀ w, Calls Try.prog 58 #[.string s, .func (.func 44) #[] #[]] w fun e w' => RI e (¬ AllOk s s.size) ∧ Below w.heap.size w w' := by
    intro w
    go_enter Try.func58, Try.ntmps58
    go_wp2_with (go_at_call 75; refine (index_any s _).mono ?_; rintro e w2 ⟨⟨r, rfl, hr⟩, hB⟩; have HR := Lib.hid (And.intro hr hB); clear hr hB)
    go_ret
    exact ⟨⟨_, rfl, HR.out.1⟩, HR.out.2⟩
  go_enter Try.func45, Try.ntmps45
  go_wp2_with (go_at_call 58; refine (c58 _).mono ?_; rintro e w2 ⟨⟨r, rfl, hr⟩, hB⟩; have HR := Lib.hid (And.intro hr hB); clear hr hB)
  go_ret
  exact ⟨⟨_, rfl, by rw [← HR.out.1]; simp⟩, HR.out.2⟩
def IsNm (s : ByteArray) : Prop := 1 ≤ s.size ∧ s.size ≤ 16 ∧ AllOk s s.size
theorem empty_of {s : ByteArray} (h : s.size = 0) : s = ⟨#[]⟩ := by
  obtain ⟨⟨l⟩⟩ := s
  have h' : l.length = 0 := h
  rw [List.eq_nil_of_length_eq_zero h']
set_option maxRecDepth 1000000 in
set_option maxHeartbeats 1600000 in
theorem isName_any (s : ByteArray) (w : World) : Calls Try.prog 27 #[.string s] w fun e w' => RB e (IsNm s) ∧ Below w.heap.size w w' := by
  rcases Nat.eq_zero_or_pos s.size with h0 | h0
  · obtain rfl := empty_of h0
    go_enter Try.func27, Try.ntmps27
    go_wp2
    go_ret
    exact ⟨⟨false, rfl, fun h => (by cases h), fun h => absurd h.1 (by rw [h0]; omega)⟩, Below.refl _ _⟩
  · have hne : ¬ s.toList = [] := fun h => by
      rw [ByteArray.toList_eq] at h
      obtain ⟨⟨l⟩⟩ := s
      have h' : l = [] := h
      subst h'
      exact absurd h0 (by decide)
    by_cases h1 : (s.size : Int) ≤ 16
    · go_enter Try.func27, Try.ntmps27
      go_wp2_with (go_at_call 45; refine (contains_any s _).mono ?_; rintro e w2 ⟨⟨b, rfl, hb⟩, hB⟩; have HR := Lib.hid (And.intro hb hB); clear hb hB)
      go_ret
      refine ⟨⟨_, rfl, ?_⟩, HR.out.2⟩
      have hx := HR.out.1
      constructor
      · intro hb
        refine ⟨h0, by omega, Classical.byContradiction fun hn => ?_⟩
        have := hx.2 hn
        subst this
        exact absurd hb (by simp)
      · intro hn
        cases b with
        | false => simp [hne]
        | true => exact absurd hn.2.2 (hx.1 rfl)
    · go_enter Try.func27, Try.ntmps27
      go_wp2
      go_ret
      exact ⟨⟨false, rfl, fun h => (by cases h), fun h => absurd h.2.1 (by omega)⟩, Below.refl _ _⟩
set_option maxRecDepth 1000000 in
set_option maxHeartbeats 1600000 in
theorem isNameR_any (s : ByteArray) (hs : s.size ≤ 300) (w : World) : Calls Try.prog 28 #[.string s] w fun e w' => RB e (IsNm s) ∧ w' = w := by
  go_enter Try.func28, Try.ntmps28
  go_wp2
  go_loopw [3] (fun v wr => ∃ k : Nat, wr = w ∧ v = .int .i64 k ∧ k ≤ s.size ∧ Hid (AllOk s k)) (fun v _ => s.size - (intOf v).toNat)
  case atStart => exact ⟨0, rfl, rfl, Nat.zero_le _, Lib.hid (fun i hi => by omega)⟩
  case round =>
    obtain ⟨k, rfl, rfl, hle, hall⟩ := hrel
    by_cases hlt : k < s.size
    · have h1 : (k : Int) < (s.size : Int) := by omega
      have h2 : (0 : Int) ≤ (k : Int) := by omega
      have hb := byte_at s k hlt
      obtain ⟨c, hc⟩ : ∃ c, byte s k = c := ⟨_, rfl⟩
      rw [hc] at hb
      have go : okc (c : Int) = true → Hid (AllOk s (k + 1)) := fun hok => Lib.hid (fun i hi => by
        rcases Nat.lt_or_ge i k with h | h
        · exact hall.out i h
        · obtain rfl : i = k := by omega
          rw [hc]; exact hok)
      have no : okc (c : Int) = false → ¬ IsNm s := fun hno h => by
        have := h.2.2 k hlt
        rw [hc, hno] at this
        cases this
      have GO := Lib.hid go
      have NO := Lib.hid no
      clear go no hc
      by_cases a1 : (c : Int) ≥ 97
      · by_cases a2 : (c : Int) ≤ 122
        · have HO := Lib.hid (okc_true (c := c) (by omega))
          go_wp2
          go_roundw
          case rel => exact ⟨k + 1, trivial, by go_num, by omega, GO.out HO.out⟩
          case measure => simp [intOf]; omega
        · have a3 : (c : Int) ≥ 48 := by omega
          have a4 : ¬ (c : Int) ≤ 57 := by omega
          have a5 : ((c : Int) == 45) = false := by simp; omega
          have HO := Lib.hid (okc_false (c := c) (by omega))
          go_wp2
          go_ret
          exact ⟨⟨_, rfl, fun h => by simp at h, fun h => absurd h (NO.out HO.out)⟩, rfl⟩
      · by_cases a3 : (c : Int) ≥ 48
        · by_cases a4 : (c : Int) ≤ 57
          · have HO := Lib.hid (okc_true (c := c) (by omega))
            go_wp2
            go_roundw
            case rel => exact ⟨k + 1, trivial, by go_num, by omega, GO.out HO.out⟩
            case measure => simp [intOf]; omega
          · have a5 : ((c : Int) == 45) = false := by simp; omega
            have HO := Lib.hid (okc_false (c := c) (by omega))
            go_wp2
            go_ret
            exact ⟨⟨_, rfl, fun h => by simp at h, fun h => absurd h (NO.out HO.out)⟩, rfl⟩
        · by_cases a5' : (c : Int) = 45
          · have HO := Lib.hid (okc_true (c := c) (by omega))
            have a5 : ((c : Int) == 45) = true := by simp [a5']
            clear a5'
            go_wp2
            go_roundw
            case rel => exact ⟨k + 1, trivial, by go_num, by omega, GO.out HO.out⟩
            case measure => simp [intOf]; omega
          · have HO := Lib.hid (okc_false (c := c) (by omega))
            have a5 : ((c : Int) == 45) = false := by simp [a5']
            clear a5'
            go_wp2
            go_ret
            exact ⟨⟨_, rfl, fun h => by simp at h, fun h => absurd h (NO.out HO.out)⟩, rfl⟩
    · obtain rfl : k = s.size := by omega
      by_cases h1 : (s.size : Int) ≥ 1
      · by_cases h2 : (s.size : Int) ≤ 16
        · go_wp2
          go_ret
          exact ⟨⟨_, rfl, fun _ => ⟨by omega, by omega, hall.out⟩, fun _ => by simp⟩, rfl⟩
        · go_wp2
          go_ret
          exact ⟨⟨_, rfl, fun h => by simp at h, fun h => absurd h.2.1 (by omega)⟩, rfl⟩
      · go_wp2
        go_ret
        exact ⟨⟨_, rfl, fun h => by simp at h, fun h => absurd h.1 (by omega)⟩, rfl⟩
end Go.Proofs.Ytkbbpjknakajeaa
