/- The program's 'once': slices.Sorted(slices.Values(row)), and the walk over what it hands back. -/
import Derived.Test.YtkbbpjknakajeaaIter
import Derived.Test.YtkbbpjknakajeaaShelf
import Derived.Sort.OwnSortedInts
import Derived.Sort.WalkB12
import Derived.Deep.QuietTactic
import Derived.BigQuiet
import Derived.BigRegion
import Derived.WalkLawsBesides
import Derived.IntWalk
import Derived.WalkSpells
import Derived.Outline
import Derived.Lib.Hide
namespace Go.Proofs.Ytkbbpjknakajeaa.Li
open Go.RowKit Go.Shelf Go.Sort

def sortedI (zs : List Int) : List Int := zs.mergeSort (fun x y => decide (x ≤ y))
theorem length_sortedI (zs : List Int) : (sortedI zs).length = zs.length := by simp [sortedI]

theorem own_base {W : World} {base base' : Nat} {e : TypeId} {size : Nat} {v : Value} {k : Nat} {xs : List Value} (h : W.ownsRow base e size v k xs) (hb : base' ≤ base) : W.ownsRow base' e size v k xs := by
  refine ⟨h.1, ?_⟩
  rcases h.2 with h | ⟨g, cap, cur, h1, h2, h3⟩
  · exact .inl h
  · exact .inr ⟨g, cap, cur, h1, Nat.le_trans hb h2, h3⟩

set_option maxRecDepth 100000 in
set_option maxHeartbeats 2000000 in
theorem sorted_of (Bs : Nat) (zs : List Int) (hz : zs.length ≤ 1000) (w : World) (hseq : Gives Fence.wide 2 w 61 #[.pointer (some ⟨Bs, 0, none⟩)] zs) :
    Calls Try.prog 48 #[.func (.func 61) #[] #[.pointer (some ⟨Bs, 0, none⟩)]] w fun e w' => ∃ (v : Value), e = .returned v ∧
      w'.ownsRow w.heap.size 3 1 v zs.length ((sortedI zs).map (Value.int .i64)) ∧ (v = .slice none 0 0 ↔ zs = []) ∧ Below w.heap.size w w' := by
  refine (callsIn_wide (n := 5)).1 ?_
  have hro : Fence.wide.round = none := rfl
  have h1 : 1 ≤ 5 := by omega
  have hml : zs.length ≤ maxLen := Nat.le_trans hz (by decide)
  have cC := collect_in Fence.wide 4 trivial trivial rfl (by omega) 61 #[.pointer (some ⟨Bs, 0, none⟩)] trivial (enters_of Try.func61 (by kernel_rfl) rfl) zs hml (by omega) w hseq
  have hf59 : Fence.wide.fn 59 := trivial
  have hf60 : Fence.wide.fn 60 := trivial
  refine callsIn_of_wp Try.func48 rfl trivial ?_ hro
  simp only [Try.ntmps48, List.size_toArray, List.length_cons, List.length_nil, Nat.reduceAdd, Nat.reduceSub, Array.replicate_succ, Array.replicate_zero, List.push_toArray, List.append_toArray, List.nil_append, List.cons_append]
  gi_wp2_with (gi_at_call 59; refine cC.mono ?_; rintro e W ⟨v, rfl, hrow, hnil, hb⟩)
  rcases hrow.2 with ⟨rfl, hz0⟩ | ⟨gb, cap', cur, rfl, hbase, hgb, r1, r2, r3, r4⟩
  · have hss : zs = [] := List.eq_nil_of_length_eq_zero hz0
    subst hss
    gi_wp2_with (gi_at_call 60; refine (callsIn_wide.2 (Try.slices_Sort_int_none none 0 W)).mono ?_; rintro e w' ⟨rfl, rfl⟩)
    go_ret
    exact ⟨.slice none 0 0, rfl, by simpa [sortedI] using hrow, by simp, hb⟩
  · have hH : Holds (Value.int .i64) W gb 0 zs.toArray := holds_of_blockI hgb (by simpa using r4)
    have hgl : gb < W.heap.size := (Array.getElem?_eq_some_iff.1 hgb).1
    have cS := Try.slices_Sort_int gb 0 cap' zs W hH hgl (by omega)
    gi_wp2_with (gi_at_call 60; refine (callsIn_wide.2 cS).mono ?_; rintro e w' ⟨rfl, nn, os, rfl⟩)
    go_ret
    exact ⟨_, rfl, ownsRow_sortedI (by simp) hbase hgb r1 r2 r3, hnil, hb.grown (grownBy_sortedI _) hb.size (fun j hj => by cases hj; exact hbase)⟩

theorem sorted_ok (Bs b off cap : Nat) (zs : List Int) (hz : zs.length ≤ 1000) (w : World) (hBs0 : Bs < w.heap.size) (hb : b < w.heap.size)
    (hB : w.cell? ⟨Bs, 0, none⟩ = some (.slice (some ⟨b, off, none⟩) zs.length cap)) (hc0 : ∀ j, j < zs.length → w.cell? ⟨b, off + j, none⟩ = some (.int .i64 (zs[j]?.getD 0))) :
    Calls Try.prog 48 #[.func (.func 61) #[] #[.pointer (some ⟨Bs, 0, none⟩)]] w fun e w' => ∃ (v : Value), e = .returned v ∧
      w'.ownsRow w.heap.size 3 1 v zs.length ((sortedI zs).map (Value.int .i64)) ∧ (v = .slice none 0 0 ↔ zs = []) ∧ Below w.heap.size w w' :=
  sorted_of Bs zs hz w (values_gives Fence.wide 2 trivial rfl (by omega) Bs b off cap zs (by omega) w hBs0 hb hB hc0)
/-- a row of integers, read -/
def Reads (w : World) (b off : Nat) (d : Array Int) : Prop := ∀ j, j < d.size → w.cell? ⟨b, off + j, none⟩ = some (.int .i64 d[j]!)
theorem Reads.below {w w' : World} {b off : Nat} {d : Array Int} (h : Reads w b off d) (hl : b < w.heap.size) (hb : Below w.heap.size w w') : Reads w' b off d :=
  fun j hj => (hb.cell (p := ⟨b, off + j, none⟩) hl).trans (h j hj)
/-- a slice that reads as integers, an empty one too -/
def SliceOf (w : World) (a : Option Addr) (d : Array Int) : Prop := d.size = 0 ∨ ∃ b off, a = some ⟨b, off, none⟩ ∧ b < w.heap.size ∧ Reads w b off d
theorem SliceOf.below {w w' : World} {a : Option Addr} {d : Array Int} (h : SliceOf w a d) (hb : Below w.heap.size w w') : SliceOf w' a d := by
  rcases h with h | ⟨b, off, rfl, hl, hr⟩
  · exact .inl h
  · exact .inr ⟨b, off, rfl, Nat.lt_of_lt_of_le hl hb.size, hr.below hl hb⟩
theorem own_some {w : World} {base : Nat} {e : TypeId} {size n : Nat} {v : Value} {xs : List Value} (h : w.ownsRow base e size v n xs) (hn : 0 < n) : ∃ g cap, v = .slice (some ⟨g, 0, none⟩) n cap ∧ n ≤ cap ∧ base ≤ g ∧ g < w.heap.size := by
  rcases h.2 with ⟨_, h1⟩ | ⟨g, cap, cur, h1, hb, hg, hc, _⟩
  · omega
  · exact ⟨g, cap, h1, hc, hb, (Array.getElem?_eq_some_iff.1 hg).1⟩
theorem own_holds {w : World} {base : Nat} {e : TypeId} {g cap n : Nat} {zs : List Int} (h : w.ownsRow base e 1 (.slice (some ⟨g, 0, none⟩) n cap) n (zs.map (Value.int .i64))) (hn : zs.length = n) : Holds (Value.int .i64) w g 0 zs.toArray := by
  subst hn
  rcases h.2 with ⟨h1, _⟩ | ⟨g', cap', cur, h1, _, hg, hn, hm, hs, ht⟩
  · cases h1
  · cases h1
    exact holds_of_blockI hg (by simpa using ht)
theorem holds_reads {w : World} {g off : Nat} {d : Array Int} (h : Holds (Value.int .i64) w g off d) : Reads w g off d := fun j hj => (h j hj).1
theorem list_read {w : World} {b off : Nat} {d : Array Int} (h : Reads w b off d) : ∀ j, j < d.toList.length → w.cell? ⟨b, off + j, none⟩ = some (.int .i64 (d.toList[j]?.getD 0)) := by
  intro j hj
  have hj' : j < d.size := by simpa using hj
  rw [h j hj', getElem!_pos d j hj']
  simp [hj']
/-- the first k stand in order: 0, 1, .. -/
def UpTo (d : Array Int) (k : Nat) : Prop := ∀ j, j < k → d[j]! = (j : Int)
/-- a call that answers whether Q holds, and leaves what lay there -/
def Says (Q : Prop) (w : World) (e : Ending) (w' : World) : Prop := ∃ r : Bool, e = .returned (.bool r) ∧ (r = true ↔ Q) ∧ Below w.heap.size w w'
/-- what once asks -/
def OnceRes (n : Nat) (d : Array Int) : Prop := d.size = n ∧ UpTo (sortedI d.toList).toArray d.size

set_option maxHeartbeats 1600000 in
set_option maxRecDepth 1000000 in
theorem once_some (n b off cap : Nat) (d : Array Int) (h0 : 0 < d.size) (hs : d.size ≤ 1000) (w : World) (hb : b < w.heap.size) (hr : Reads w b off d) :
    Calls Try.prog 34 #[.int .i64 n, .slice (some ⟨b, off, none⟩) d.size cap] w (Says (OnceRes n d) w) := by
  have cV : ∀ W : World, Calls Try.prog 49 #[.slice (some ⟨b, off, none⟩) d.size cap] W fun e w' => e = .returned (.func (.func 61) #[] #[.pointer (some ⟨W.heap.size, 0, none⟩)]) ∧ w' = W.alloc (.cells #[.slice (some ⟨b, off, none⟩) d.size cap] 24) :=
    fun W => (callsIn_wide (n := 5)).1 (values_in Fence.wide 5 trivial rfl (some ⟨b, off, none⟩) d.size cap W)
  have hcell : (w.alloc (.cells #[.slice (some ⟨b, off, none⟩) d.size cap] 24)).cell? ⟨w.heap.size, 0, none⟩ = some (.slice (some ⟨b, off, none⟩) d.toList.length cap) := by
    rw [Array.length_toList]; exact cell_one_new w _ 24 0 _ rfl
  have hbw : Below w.heap.size w (w.alloc (.cells #[.slice (some ⟨b, off, none⟩) d.size cap] 24)) := (Below.refl _ w).alloc (Nat.le_refl _) _
  have cS := sorted_ok w.heap.size b off cap d.toList (by simpa using hs) _ (by simp) (by simp; omega) hcell (list_read (hr.below hb hbw))
  rw [Array.length_toList] at cS
  clear hr hcell
  go_enter Try.func34, Try.ntmps34
  go_wp2_with (first
    | (go_at_call 49; refine (cV _).mono ?_; rintro e w' ⟨rfl, rfl⟩)
    | (go_at_call 48; refine cS.mono ?_; rintro e w' ⟨v, rfl, hrow, hnil, hB⟩))
  obtain ⟨g, c2, rfl, hc2, hg0, hgl⟩ := own_some hrow h0
  have hl : (sortedI d.toList).length = d.size := by rw [length_sortedI]; simp
  have HR := Lib.hid (holds_reads (own_holds hrow hl))
  have HB := Lib.hid hB
  have HW := Lib.hid hbw
  clear hrow hnil hB hbw hc2 hg0
  obtain ⟨s, hs'⟩ : ∃ s, (sortedI d.toList).toArray = s := ⟨_, rfl⟩
  have hss : s.size = d.size := by rw [← hs']; simpa using hl
  have HS := Lib.hid hs'
  rw [hs'] at HR
  clear hs' hl
  go_simp
  go_wp2
  go_loop [13] (fun t => ∃ k : Nat, k ≤ d.size ∧ t = .int .i64 k ∧ Hid (UpTo s k)) (fun t => d.size - (intOf t).toNat)
  case atStart => exact ⟨0, Nat.zero_le _, rfl, Lib.hid (fun j hj => by omega)⟩
  case round =>
    obtain ⟨k, hk, rfl, hall⟩ := hrel
    by_cases hlt : k < d.size
    · have ck := HR.out k (by omega)
      have h1 : (k : Int) < (d.size : Int) := by omega
      have h2 : (0 : Int) ≤ (k : Int) := by omega
      obtain ⟨x, hx⟩ : ∃ x, s[k]! = x := ⟨_, rfl⟩
      rw [hx, Nat.zero_add] at ck
      have HX := Lib.hid hx
      clear hx
      by_cases ho : x = (k : Int)
      · subst ho
        go_wp2
        go_round
        case rel =>
          refine ⟨k + 1, by omega, by go_num, Lib.hid (fun j hj => ?_)⟩
          rcases Nat.lt_or_ge j k with h | h
          · exact hall.out j h
          · obtain rfl : j = k := by omega
            rw [HX.out]
        case measure => simp [intOf]; omega
      · have hd : decide (x = (k : Int)) = false := by simpa using ho
        go_wp2
        go_ret
        refine ⟨false, rfl, ⟨fun h => absurd h (by decide), fun h => ?_⟩, HW.out.trans (HB.out.mono (by simp))⟩
        exact absurd (HX.out.symm.trans (by rw [← HS.out]; exact h.2 k hlt)) ho
    · obtain rfl : k = d.size := by omega
      go_wp2
      go_ret
      refine ⟨decide ((d.size : Int) = n), rfl, ⟨fun h => ?_, fun h => ?_⟩, HW.out.trans (HB.out.mono (by simp))⟩
      · have : (d.size : Int) = n := by simpa using h
        exact ⟨by omega, by rw [HS.out]; exact hall.out⟩
      · have := h.1
        simp; omega

set_option maxHeartbeats 1600000 in
set_option maxRecDepth 1000000 in
theorem once_none (n cap : Nat) (a : Option Addr) (w : World) : Calls Try.prog 34 #[.int .i64 n, .slice a 0 cap] w (Says (n = 0) w) := by
  have cV : ∀ W : World, Calls Try.prog 49 #[.slice a 0 cap] W fun e w' => e = .returned (.func (.func 61) #[] #[.pointer (some ⟨W.heap.size, 0, none⟩)]) ∧ w' = W.alloc (.cells #[.slice a 0 cap] 24) :=
    fun W => (callsIn_wide (n := 5)).1 (values_in Fence.wide 5 trivial rfl a 0 cap W)
  have hcell : (w.alloc (.cells #[.slice a 0 cap] 24)).cell? ⟨w.heap.size, 0, none⟩ = some (.slice a 0 cap) := cell_one_new w _ 24 0 _ rfl
  have hbw : Below w.heap.size w (w.alloc (.cells #[.slice a 0 cap] 24)) := (Below.refl _ w).alloc (Nat.le_refl _) _
  have cS := sorted_of w.heap.size [] (by simp) (w.alloc (.cells #[.slice a 0 cap] 24)) (values_none Fence.wide 2 trivial rfl w.heap.size cap a _ (by simp) hcell)
  clear hcell
  have HW := Lib.hid hbw
  clear hbw
  go_enter Try.func34, Try.ntmps34
  go_wp2_with (first
    | (go_at_call 49; refine (cV _).mono ?_; rintro e w' ⟨rfl, rfl⟩)
    | (go_at_call 48; refine cS.mono ?_; rintro e w' ⟨v, rfl, hrow, hnil, hB⟩; obtain rfl := hnil.2 trivial))
  have HB := Lib.hid hB
  clear hrow hnil hB
  clear cS cV
  try go_simp
  go_wp2
  refine wp_loop_rounds 1 ?_
  rw [rounds_succ]
  go_wp2
  go_ret
  exact ⟨decide ((0 : Int) = n), rfl, by simp; omega, HW.out.trans (HB.out.mono (by simp))⟩

end Go.Proofs.Ytkbbpjknakajeaa.Li
