/- All rows in order; the document's Linear, its parts. -/
import Derived.Test.YtkbbpjknakajeaaTLin
import Derived.Test.YtkbbpjknakajeaaTNext
import Derived.Deep.LoopGhost
namespace Go.Proofs.Ytkbbpjknakajeaa.Li
open Go.RowKit Go.Shelf Go.Sort
open Ex (rows dec mult arr_get count_row)
theorem r_many (al : Option Addr) (cl : Nat) (l : Array QOp) (w : World) (h : 10 < l.size) : Calls Try.prog 10 #[.slice al l.size cl] w (LinRes l w) := by
  have h1 : (l.size : Int) > 10 := by omega
  go_enter Try.func10, Try.ntmps10
  go_wp2
  go_ret3
  exact ⟨Below.refl _ _, .inl ⟨h, rfl⟩⟩
/-- all rows, in order -/
def allRows (n : Nat) : List (List Int) := rows n (cOf n [])
theorem goal_all (l : Array QOp) : goal l [] l.size = fnd (fun t => G l t) (allRows l.size) := by
  unfold goal allRows
  exact fnd_congr fun t => by simp
theorem good_all (n : Nat) : Ex.Good n (cOf n []) := Ex.good n _ (cOf_start n)
theorem row_count {n : Nat} {r : List Int} (hr : r ∈ allRows n) (x : Int) : r.count x = if 0 ≤ x ∧ x < (n : Int) then 1 else 0 := by
  rw [count_row n _ r (cOf_start n) hr]
  unfold mult
  by_cases h0 : 0 ≤ x
  · rw [if_pos h0]
    by_cases h1 : x < (n : Int)
    · rw [if_pos ⟨h0, h1⟩, cOf_get n [] x.toNat (by omega)]; simp
    · rw [if_neg (by omega), Ex.getD_zero (by rw [cOf_length]; omega)]
  · rw [if_neg h0, if_neg (by omega)]
theorem row_within {n : Nat} {r : List Int} (hr : r ∈ allRows n) : ∀ x ∈ r, 0 ≤ x ∧ x < (n : Int) := by
  intro x hx
  have h1 := List.count_pos_iff.2 hx
  rw [row_count hr] at h1
  by_cases h : 0 ≤ x ∧ x < (n : Int)
  · exact h
  · rw [if_neg h] at h1; omega
theorem rows_len : ∀ (s : Nat) (c : List Nat) (r : List Int), r ∈ rows s c → r.length = s
  | 0, c, r, h => by
    simp [rows] at h
    subst h; rfl
  | s + 1, c, r, h => by
    unfold rows at h
    obtain ⟨i, hi, hr⟩ := List.mem_flatMap.1 h
    split at hr
    · obtain ⟨t, ht, rfl⟩ := List.mem_map.1 hr
      simp [rows_len s _ t ht]
    · cases hr
theorem row_length {n : Nat} {r : List Int} (hr : r ∈ allRows n) : r.length = n := rows_len n _ r hr
theorem row_once {n : Nat} {r : List Int} (hr : r ∈ allRows n) : OnceR n r.toArray := by
  refine ⟨by simpa using row_length hr, fun i hi => ?_⟩
  have hc : ∀ k, k ≤ r.length → cnt r.toArray (i : Int) k = (r.take k).count (i : Int) := by
    intro k
    induction k with
    | zero => intro _; simp [cnt]
    | succ k ih =>
      intro hk
      rw [cnt, ih (by omega), List.take_add_one, List.count_append, List.getElem?_eq_getElem (by omega)]
      rw [arr_get]
      simp only [List.getD, List.getElem?_eq_getElem (show k < r.length by omega), Option.getD_some, Option.toList_some, List.count_singleton]
      by_cases e : r[k] = (i : Int)
      · simp [e]
      · have : (r[k] == (i : Int)) = false := beq_eq_false_iff_ne.2 e
        simp [e, this]
  have h2 := hc r.length (Nat.le_refl _)
  rw [List.take_length, row_count hr, if_pos ⟨by omega, by omega⟩] at h2
  simpa using h2
theorem idRow_first (n : Nat) : Ex.firstRow (cOf n []) = (List.range n).map fun i : Nat => (i : Int) := by
  unfold Ex.firstRow
  rw [cOf_length, ← List.range_eq_range']
  have : ∀ m, m ≤ n → ((List.range m).flatMap fun i => List.replicate ((cOf n []).getD i 0) (i : Int)) = (List.range m).map fun i : Nat => (i : Int) := by
    intro m
    induction m with
    | zero => intro _; rfl
    | succ m ih =>
      intro hm
      rw [List.range_succ, List.flatMap_append, ih (by omega), List.map_append]
      have e := cOf_get n [] m (by omega)
      simp only [List.flatMap_cons, List.flatMap_nil, List.append_nil, List.map_cons, List.map_nil, e]
      simp
  exact this n (Nat.le_refl n)
theorem row_calls {al a : Option Addr} {cl c : Nat} {l : Array QOp} {r : List Int} {w : World} (hq : SliceOfQ w al l) (hr : r ∈ allRows l.size) (hs : SliceOf w a r.toArray) (hc : r.length ≤ c) (hn : l.size ≤ 10) :
    Calls Try.prog 14 #[.slice al l.size cl, .slice a r.length c] w (Says (FitsR l r.toArray r.toArray.size) w) ∧ Calls Try.prog 33 #[.slice al l.size cl, .slice a r.length c] w (Says (Plays l r.toArray) w) := by
  have hl := row_length hr
  have hsz : r.toArray.size = l.size := by simpa using hl
  rcases Nat.eq_zero_or_pos r.length with h0 | h0
  · have hl0 : l.size = 0 := by omega
    have hr0 : r = [] := List.eq_nil_of_length_eq_zero h0
    subst hr0
    rw [hl0]
    refine ⟨(fitsR_nil al a 0 cl c (by omega) w (onceR_none c a w)).mono (says_iff ⟨fun _ i hi => by simp at hi, fun _ => trivial⟩), (plays_nil al a 0 cl c (by omega) w).mono (says_iff ⟨fun _ => ?_, fun _ => trivial⟩)⟩
    exact (Pre.nil l).good.2
  · rcases hs with hs | ⟨b, off, rfl, hb, hrd⟩
    · have e1 : r.toArray.size = r.length := by simp
      omega
    · rcases hq with hq | ⟨bl, ol, rfl, hbl, hq⟩
      · omega
      · have hw : Within l.size r.toArray := fun k hk => by
          have hk' : k < r.length := by simpa using hk
          rw [arr_get]
          simp only [List.getD, List.getElem?_eq_getElem hk', Option.getD_some]
          exact row_within hr _ (List.getElem_mem hk')
        have e1 : r.toArray.size = r.length := by simp
        have c36 := onceR_some b off c r.toArray (by omega) w hrd
        have f14 := fitsR_some bl ol cl b off c l r.toArray (by omega) (by omega) (by omega) w hb hbl hq hrd (Q := OnceR l.size r.toArray) (fun _ => hw) (by rw [hsz] at c36 ⊢; exact c36)
        have p33 := plays_some bl ol cl b off c l r.toArray (by omega) (by omega) w hb hbl hq hrd hw
        rw [e1] at p33
        rw [show r.toArray.size = r.length from e1] at f14 ⊢
        exact ⟨f14.mono (says_iff ⟨fun h => h.2, fun h => ⟨row_once hr, h⟩⟩), p33⟩
/-- the identity, as far as it is laid -/
def idL (k : Nat) : List Value := (List.range k).map fun i : Nat => Value.int .i64 (i : Int)
theorem idL_snoc (k : Nat) : idL (k + 1) = idL k ++ [.int .i64 (k : Int)] := by simp [idL, List.range_succ]
/-- where the document's loop stands -/
def AtRow (l : Array QOp) (w : World) (k : Nat) (v : Value) (wr : World) : Prop := ∃ r a c, (allRows l.size)[k]? = some r ∧ v = .slice a r.length c ∧ SliceOf wr a r.toArray ∧ r.length ≤ c ∧ fnd (fun t => G l t) ((allRows l.size).take k) = none ∧ Below w.heap.size w wr
theorem slice_own {w : World} {B g c : Nat} {r : List Int} (h : w.ownsRow B 3 1 (.slice (some ⟨g, 0, none⟩) r.length c) r.length (r.map (Value.int .i64))) : SliceOf w (some ⟨g, 0, none⟩) r.toArray :=
  .inr ⟨g, 0, rfl, (h.lt g rfl).2, holds_reads (own_holds (n := r.length) (zs := r) h rfl)⟩
theorem next_row {l : Array QOp} {w wr W : World} {k : Nat} {v : Value} (hA : AtRow l w k v wr) (hW : Below wr.heap.size wr W) (hn : l.size ≤ 10) (hG : ∀ r, (allRows l.size)[k]? = some r → ¬ G l r) :
    Calls Try.prog 32 #[v] W fun e w' => (∃ v', e = .returned (.tuple #[v', .bool true]) ∧ k + 1 < (allRows l.size).length ∧ AtRow l w (k + 1) v' w') ∨ (∃ v', e = .returned (.tuple #[v', .bool false]) ∧ fnd (fun t => G l t) (allRows l.size) = none ∧ Below w.heap.size w w') := by
  obtain ⟨r, a, c, hk, rfl, hs, hc, hf, hB⟩ := hA
  have hr : r ∈ allRows l.size := List.mem_of_getElem? hk
  have hlen := row_length hr
  have hkl : k < (allRows l.size).length := (List.getElem?_eq_some_iff.1 hk).1
  have hno := hG r hk
  have hfn := fnd_take hk hf hno
  have hBW : Below w.heap.size w W := hB.trans (hW.mono hB.size)
  rcases Nat.eq_zero_or_pos r.length with h0 | h0
  · have hr0 : r = [] := List.eq_nil_of_length_eq_zero h0
    subst hr0
    exact absurd (Pre.nil l).good hno
  · have e1 : r.toArray.size = r.length := by simp
    rcases hs.below hW with hs | ⟨b, off, rfl, hb, hrd⟩
    · omega
    · by_cases hlast : k + 1 < (allRows l.size).length
      · obtain ⟨r', hr'⟩ : ∃ r', (allRows l.size)[k + 1]? = some r' := ⟨_, List.getElem?_eq_getElem hlast⟩
        obtain ⟨i, hN⟩ := (good_all l.size).chain k r r' hk hr'
        have c32 := nextN_some b off c r.toArray W (by omega) i hN.lt hN.falls hN.up hrd
        rw [e1] at c32
        refine c32.mono ?_
        rintro e w' ⟨g, c', r2, rfl, hN2, hR2, hcc, hg1, hg2, hB2⟩
        have he : r2 = r'.toArray := NextRel.unique ⟨i, hN2⟩ ⟨i, hN⟩
        subst he
        have hl' : r'.length = r.length := by rw [row_length (List.mem_of_getElem? hr'), hlen]
        refine .inl ⟨_, rfl, hlast, r', some ⟨g, 0, none⟩, c', hr', by rw [hl', e1], .inr ⟨g, 0, rfl, hg2, fun j hj => by rw [Nat.zero_add]; exact (hR2 j hj).1⟩, by omega, hfn, hBW.trans (hB2.mono hBW.size)⟩
      · have hk1 : k + 1 = (allRows l.size).length := by omega
        obtain ⟨rl, hrl, hfl⟩ := (good_all l.size).last
        have hrr : rl = r := by
          have h2 : (allRows l.size).getLast? = some rl := hrl
          rw [List.getLast?_eq_getElem?, show (allRows l.size).length - 1 = k by omega, hk] at h2
          exact (Option.some.inj h2).symm
        subst hrr
        have c32 := nextN_none b off c rl.toArray W (by omega) (by omega) hfl hrd
        rw [e1] at c32
        refine c32.mono ?_
        rintro e w' ⟨rfl, hB2⟩
        refine .inr ⟨_, rfl, ?_, hBW.trans (hB2.mono hBW.size)⟩
        rwa [hk1, List.take_length] at hfn
end Go.Proofs.Ytkbbpjknakajeaa.Li
