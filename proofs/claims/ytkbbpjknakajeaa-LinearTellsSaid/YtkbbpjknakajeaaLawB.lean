/- The document's Does, and the law LinearRows. -/
import Derived.Test.YtkbbpjknakajeaaDoes
import Derived.Test.YtkbbpjknakajeaaLawA
import Derived.Test.YtkbbpjknakajeaaFix
namespace Go.Proofs.Ytkbbpjknakajeaa.Li
open Go.RowKit Go.Shelf Go.Sort

set_option maxHeartbeats 1600000 in
set_option maxRecDepth 1000000 in
theorem doesR_any (al ad : Option Addr) (n cl m cap : Nat) (_hn : n ≤ 1000) (_hm : m ≤ 1000) (w : World) {Q R : Prop} (c36 : Calls Try.prog 36 #[.int .i64 n, .slice ad m cap] w (Says Q w))
    (c33 : ∀ W, Below w.heap.size w W → Q → Calls Try.prog 33 #[.slice al n cl, .slice ad m cap] W (Says R W)) :
    Calls Try.prog 15 #[.slice al n cl, .slice ad m cap] w (Says (Q ∧ R) w) := by
  have C33 := Lib.hid c33
  clear c33
  go_enter Try.func15, Try.ntmps15
  go_wp2_with (first
    | (go_at_call 36; refine c36.mono ?_; clear c36; rintro e w' ⟨r, rfl, hrQ, hB⟩; have HB := Lib.hid hB; have HRQ := Lib.hid hrQ; clear hB hrQ; cases r)
    | (go_at_call 33; refine (C33.out _ HB.out (by have := HRQ.out; simpa using this)).mono ?_; rintro e w2 ⟨r2, rfl, hr2, hB2⟩; have HB2 := Lib.hid hB2; have HR2 := Lib.hid hr2; clear hB2 hr2))
  · go_ret
    exact ⟨false, rfl, ⟨fun h => absurd h (by decide), fun h => absurd (HRQ.out.2 h.1) (by decide)⟩, HB.out⟩
  · go_ret
    exact ⟨r2, rfl, ⟨fun h => ⟨by simpa using HRQ.out, HR2.out.1 h⟩, fun h => HR2.out.2 h.2⟩, HB.out.trans (HB2.out.mono HB.out.size)⟩

theorem same_bool {r s : Bool} {A : Prop} (h1 : r = true ↔ A) (h2 : s = true ↔ A) : s = r := by
  cases r <;> cases s <;> simp_all
set_option maxHeartbeats 1600000 in
set_option maxRecDepth 1000000 in
theorem lawRows_long (al ad : Option Addr) (n cl m cap : Nat) (h : 60 < n ∨ 60 < m) (w : World) :
    Calls Try.prog 4 #[.slice al n cl, .slice ad m cap] w fun e w' => e = .returned (.bool true) ∧ Below w.heap.size w w' := by
  by_cases h1 : 60 < n
  · have h2 : (60 : Int) < (n : Int) := by omega
    clear h
    go_enter Try.func4, Try.ntmps4
    go_wp2_with (go_at_call 8; refine (fixed_ok _).mono ?_; rintro e w' ⟨rfl, hB⟩; have HB := Lib.hid hB; clear hB)
    go_ret
    exact ⟨rfl, HB.out⟩
  · have h2 : (60 : Int) < (m : Int) := by omega
    have h3 : ¬ (60 : Int) < (n : Int) := by omega
    clear h
    go_enter Try.func4, Try.ntmps4
    go_wp2_with (go_at_call 8; refine (fixed_ok _).mono ?_; rintro e w' ⟨rfl, hB⟩; have HB := Lib.hid hB; clear hB)
    go_ret
    exact ⟨rfl, HB.out⟩
set_option maxHeartbeats 1600000 in
set_option maxRecDepth 1000000 in
theorem lawRows_short (al ad : Option Addr) (n cl m cap : Nat) (hn : n ≤ 60) (hm : m ≤ 60) (w : World) {A B : Prop}
    (c12 : ∀ W, Below w.heap.size w W → Calls Try.prog 12 #[.slice al n cl, .slice ad m cap] W (Says A W))
    (c14 : ∀ W, Below w.heap.size w W → Calls Try.prog 14 #[.slice al n cl, .slice ad m cap] W (Says A W))
    (c13 : ∀ W, Below w.heap.size w W → Calls Try.prog 13 #[.slice al n cl, .slice ad m cap] W (Says B W))
    (c15 : ∀ W, Below w.heap.size w W → Calls Try.prog 15 #[.slice al n cl, .slice ad m cap] W (Says B W)) :
    Calls Try.prog 4 #[.slice al n cl, .slice ad m cap] w fun e w' => e = .returned (.bool true) ∧ Below w.heap.size w w' := by
  have h2 : ¬ (60 : Int) < (n : Int) := by omega
  have h3 : ¬ (60 : Int) < (m : Int) := by omega
  have C12 := Lib.hid c12
  have C14 := Lib.hid c14
  have C13 := Lib.hid c13
  have C15 := Lib.hid c15
  clear c12 c13 c14 c15
  go_enter Try.func4, Try.ntmps4
  go_wp2_with (first
    | (go_at_call 8; refine (fixed_ok _).mono ?_; rintro e w1 ⟨rfl, hB⟩; have HB := Lib.hid hB; clear hB)
    | (go_at_call 12; refine (C12.out _ HB.out).mono ?_; rintro e w2 ⟨r2, rfl, hr, hB⟩; have HB2 := Lib.hid (HB.out.trans (hB.mono HB.out.size)); have HR2 := Lib.hid hr; clear hB hr)
    | (go_at_call 14; refine (C14.out _ HB2.out).mono ?_; rintro e w3 ⟨r3, rfl, hr, hB⟩; have HB3 := Lib.hid (HB2.out.trans (hB.mono HB2.out.size)); obtain rfl := same_bool HR2.out hr; clear hB hr)
    | (go_at_call 13; refine (C13.out _ HB3.out).mono ?_; rintro e w4 ⟨r4, rfl, hr, hB⟩; have HB4 := Lib.hid (HB3.out.trans (hB.mono HB3.out.size)); have HR4 := Lib.hid hr; clear hB hr)
    | (go_at_call 15; refine (C15.out _ HB4.out).mono ?_; rintro e w5 ⟨r5, rfl, hr, hB⟩; have HB5 := Lib.hid (HB4.out.trans (hB.mono HB4.out.size)); obtain rfl := same_bool HR4.out hr; clear hB hr))
  go_ret
  exact ⟨by simp, HB5.out⟩
end Go.Proofs.Ytkbbpjknakajeaa.Li
