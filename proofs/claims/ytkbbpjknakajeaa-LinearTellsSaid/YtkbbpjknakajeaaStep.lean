/- One call done by a queue. -/
import Derived.Test.YtkbbpjknakajeaaFitsR
import Derived.Deep.RegionLawGrows
import Derived.Deep.RegionHeld3
import Derived.OwnWalk
namespace Go.Proofs.Ytkbbpjknakajeaa.Li
open Go.RowKit Go.Shelf Go.Sort
/-- a call as a value -/
def QOp.val (x : QOp) : Value := .agg #[.bool x.put, .int .i64 x.value, .int .i64 x.fr, .int .i64 x.to]
/-- the queue's slice: nil and empty, or it leads to the row q -/
def Good (w : World) (a : Option Addr) (cap : Nat) (q : Array Int) : Prop := (a = none ∧ q = #[] ∧ cap = 0) ∨ ∃ b off, a = some ⟨b, off, none⟩ ∧ q.size ≤ cap ∧ b < w.heap.size ∧ Reads w b off q
theorem Good.below {w w' : World} {a : Option Addr} {cap : Nat} {q : Array Int} (h : Good w a cap q) (hb : Below w.heap.size w w') : Good w' a cap q := by
  rcases h with h | ⟨b, off, rfl, hc, hl, hr⟩
  · exact .inl h
  · exact .inr ⟨b, off, rfl, hc, Nat.lt_of_lt_of_le hl hb.size, hr.below hl hb⟩
theorem reads_list {W : World} {b off : Nat} {q : Array Int} (h : Reads W b off q) : ∀ a, some (Addr.mk b off none) = some a → ∀ (j : Nat) u, (q.toList.map (Value.int .i64))[j]? = some u → W.cell? (a.add j) = some u := by
  intro a ha j u hu
  cases ha
  have hj : j < q.size := by have := (List.getElem?_eq_some_iff.1 hu).1; simpa using this
  have := h j hj
  rw [Addr.add_lit, this, getElem!_pos q j hj]
  simpa [hj] using hu
theorem one_cell {w : World} {a : Nat} {v : Value} (h : w.cell? ⟨a, 0, none⟩ = some v) : ∀ (j : Nat) u, [v][j]? = some u → w.cell? ((Addr.mk a 0 none).add j) = some u := by
  intro j u hu
  cases j with
  | zero => cases hu; exact h
  | succ j => cases hu
/-- what step hands back when it did the call -/
def Stepped (w : World) (q' : Array Int) (e : Ending) (w' : World) : Prop := ∃ a c, e = .returned (.tuple #[.slice a q'.size c, .bool true]) ∧ Good w' a c q' ∧ Below w.heap.size w w'
theorem stepped_own {w W w' : World} {q : Array Int} {v : Int} {v' : Value} (hb : Below w.heap.size w W) (ho : w'.ownsRow W.heap.size 3 1 v' (q.size + 1) (q.toList.map (Value.int .i64) ++ [.int .i64 v])) (hg : W.grownBy w' none) :
    ∃ g c, v' = .slice (some ⟨g, 0, none⟩) (q.size + 1) c ∧ Good w' (some ⟨g, 0, none⟩) c (q.push v) ∧ Below w.heap.size w w' := by
  obtain ⟨g, c, rfl, hc, hg1, hg2⟩ := own_some ho (by omega)
  have hH := own_holds (n := q.size + 1) (zs := q.toList ++ [v]) (by simpa using ho) (by simp)
  refine ⟨g, c, rfl, .inr ⟨g, 0, rfl, by simpa using hc, hg2, ?_⟩, hb.grown hg hb.size (fun j hj => by cases hj)⟩
  have := holds_reads hH
  rwa [show (q.toList ++ [v]).toArray = q.push v from Array.ext' (by simp)] at this
theorem sc_new (w : World) (p : Bool) (v f t : Int) : Below w.heap.size w (w.alloc (.cells #[.bool p, .int .i64 v, .int .i64 f, .int .i64 t] 58)) ∧ w.heap.size < (w.alloc (.cells #[.bool p, .int .i64 v, .int .i64 f, .int .i64 t] 58)).heap.size ∧
    (w.alloc (.cells #[.bool p, .int .i64 v, .int .i64 f, .int .i64 t] 58)).cell? ⟨w.heap.size, 1, none⟩ = some (.int .i64 v) := by
  refine ⟨(Below.refl _ w).alloc (Nat.le_refl _) _, by simp, ?_⟩
  show (match (w.alloc _).heap[w.heap.size]? with | some (.cells c _ _) => c[1]? | _ => none) = _
  rw [World.alloc_heap_new]
  rfl
theorem sc_alloc {w W : World} {v : Int} (o : Obj) (h : Below w.heap.size w W ∧ w.heap.size < W.heap.size ∧ W.cell? ⟨w.heap.size, 1, none⟩ = some (.int .i64 v)) :
    Below w.heap.size w (W.alloc o) ∧ w.heap.size < (W.alloc o).heap.size ∧ (W.alloc o).cell? ⟨w.heap.size, 1, none⟩ = some (.int .i64 v) := by
  refine ⟨h.1.alloc h.1.size o, by simp; omega, ?_⟩
  rw [← h.2.2]
  exact ((Below.refl W.heap.size W).alloc (Nat.le_refl _) o).cell (p := ⟨w.heap.size, 1, none⟩) h.2.1
theorem sc_drew {w W : World} {v : Int} (h : Below w.heap.size w W ∧ w.heap.size < W.heap.size ∧ W.cell? ⟨w.heap.size, 1, none⟩ = some (.int .i64 v)) :
    Below w.heap.size w W.drew ∧ w.heap.size < W.drew.heap.size ∧ W.drew.cell? ⟨w.heap.size, 1, none⟩ = some (.int .i64 v) := ⟨h.1.drew, h.2.1, h.2.2⟩
theorem sc_grown {w W w' : World} {v : Int} (h : Below w.heap.size w W ∧ w.heap.size < W.heap.size ∧ W.cell? ⟨w.heap.size, 1, none⟩ = some (.int .i64 v)) (hg : W.grownBy w' none) :
    Below w.heap.size w w' ∧ w.heap.size < w'.heap.size ∧ w'.cell? ⟨w.heap.size, 1, none⟩ = some (.int .i64 v) := by
  have hb : Below W.heap.size W w' := (Below.refl _ W).grown hg (Nat.le_refl _) (fun j hj => by cases hj)
  exact ⟨h.1.grown hg h.1.size (fun j hj => by cases hj), Nat.lt_of_lt_of_le h.2.1 hb.size, (hb.cell (p := ⟨w.heap.size, 1, none⟩) h.2.1).trans h.2.2⟩
set_option maxHeartbeats 3200000 in
set_option maxRecDepth 1000000 in
theorem step_put_some (b off cap : Nat) (q : Array Int) (v f t : Int) (hs : q.size ≤ 1000) (w : World) (hcap : q.size ≤ cap) (hb : b < w.heap.size) (hr : Reads w b off q) :
    Calls Try.prog 35 #[.slice (some ⟨b, off, none⟩) q.size cap, QOp.val ⟨true, v, f, t⟩] w (Stepped w (q.push v)) := by
  obtain ⟨t0, hi, hz0, hz1, hz2⟩ := info_parts info3
  have HR := Lib.hid hr
  have hm : q.size + 1 ≤ maxLen := Nat.le_trans (by omega : q.size + 1 ≤ 1001) (by decide)
  clear hr
  unfold QOp.val
  go_enter Try.func35, Try.ntmps35
  go_wp2_with fail
  have HS := sc_new w true v f t
  have HC1 : ∀ (j : Nat) u, [Value.int .i64 v][j]? = some u → ((w.alloc (.cells #[.bool true, .int .i64 v, .int .i64 f, .int .i64 t] 58)).alloc (.cells #[.int .i64 v] 3)).cell? ((Addr.mk (w.heap.size + 1) 0 none).add j) = some u := by
    have := cell_one_new (w.alloc (.cells #[.bool true, .int .i64 v, .int .i64 f, .int .i64 t] 58)) (.int .i64 v) 3
    rwa [World.size_alloc] at this
  have HC := Lib.hid HC1
  clear HC1
  go_region_held3 (fun W => Below w.heap.size w W ∧ w.heap.size < W.heap.size ∧ W.cell? ⟨w.heap.size, 1, none⟩ = some (.int .i64 v))
    (first | exact HS | (go_split_ands; first | exact sc_drew ⟨by assumption, by assumption, by assumption⟩ | exact sc_alloc _ ⟨by assumption, by assumption, by assumption⟩ | exact sc_grown ⟨by assumption, by assumption, by assumption⟩ hgrow | exact sc_grown (sc_alloc _ ⟨by assumption, by assumption, by assumption⟩) hgrow | exact sc_grown (sc_drew (sc_alloc _ ⟨by assumption, by assumption, by assumption⟩)) hgrow))
    ((refine step_append_grows rfl (.tmp 14) (.tmp 17) 24 rfl 3 t0 _ 1 8 Try.underlying24 hi hz0 hz1 hz2 rfl (by decide) (some ⟨b, off, none⟩) q.size q.size (q.toList.map (Value.int .i64)) rfl (fun h => by cases h) (by simp) (reads_list (HR.out.below hb (((Below.refl _ w).alloc (Nat.le_refl _) _).alloc (by simp) _).drew)) ⟨w.heap.size + 1, 0, none⟩ 1 1 [.int .i64 v] rfl rfl (by exact HC.out) (by simp [Value.oneCell']) (by omega) hm (by omega) ?_; intro v' w' hown hgrow))
  rename_i hHeld
  clear hHeld HS HC
  obtain ⟨g, c, rfl, hgood, hbel⟩ := stepped_own (((Below.refl _ w).alloc (Nat.le_refl _) _).alloc (by simp) _).drew hown hgrow
  have HG := Lib.hid hgood
  have HB := Lib.hid hbel
  clear hown hgrow hgood hbel
  go_wp2
  go_ret2
  exact ⟨_, c, by simp, HG.out, HB.out⟩

set_option maxHeartbeats 3200000 in
set_option maxRecDepth 1000000 in
theorem step_put_nil (v f t : Int) (w : World) : Calls Try.prog 35 #[.slice none 0 0, QOp.val ⟨true, v, f, t⟩] w (Stepped w #[v]) := by
  obtain ⟨t0, hi, hz0, hz1, hz2⟩ := info_parts info3
  have hm : 0 + 1 ≤ maxLen := by decide
  unfold QOp.val
  go_enter Try.func35, Try.ntmps35
  go_wp2_with fail
  have HS := sc_new w true v f t
  have HC1 : ∀ (j : Nat) u, [Value.int .i64 v][j]? = some u → ((w.alloc (.cells #[.bool true, .int .i64 v, .int .i64 f, .int .i64 t] 58)).alloc (.cells #[.int .i64 v] 3)).cell? ((Addr.mk (w.heap.size + 1) 0 none).add j) = some u := by
    have := cell_one_new (w.alloc (.cells #[.bool true, .int .i64 v, .int .i64 f, .int .i64 t] 58)) (.int .i64 v) 3
    rwa [World.size_alloc] at this
  have HC := Lib.hid HC1
  clear HC1
  go_region_held3 (fun W => Below w.heap.size w W ∧ w.heap.size < W.heap.size ∧ W.cell? ⟨w.heap.size, 1, none⟩ = some (.int .i64 v))
    (first | exact HS | (go_split_ands; first | exact sc_drew ⟨by assumption, by assumption, by assumption⟩ | exact sc_alloc _ ⟨by assumption, by assumption, by assumption⟩ | exact sc_grown ⟨by assumption, by assumption, by assumption⟩ hgrow | exact sc_grown (sc_alloc _ ⟨by assumption, by assumption, by assumption⟩) hgrow | exact sc_grown (sc_drew (sc_alloc _ ⟨by assumption, by assumption, by assumption⟩)) hgrow))
    ((refine step_append_grows rfl (.tmp 14) (.tmp 17) 24 rfl 3 t0 _ 1 8 Try.underlying24 hi hz0 hz1 hz2 rfl (by decide) none 0 0 [] rfl (fun _ => ⟨rfl, rfl⟩) rfl (fun b h => by cases h) ⟨w.heap.size + 1, 0, none⟩ 1 1 [.int .i64 v] rfl rfl (by exact HC.out) (by simp [Value.oneCell']) (by omega) hm (by omega) ?_; intro v' w' hown hgrow))
  rename_i hHeld
  clear hHeld HS HC
  obtain ⟨g, c, rfl, hgood, hbel⟩ := stepped_own (q := #[]) (((Below.refl _ w).alloc (Nat.le_refl _) _).alloc (by simp) _).drew hown hgrow
  have HG := Lib.hid hgood
  have HB := Lib.hid hbel
  clear hown hgrow hgood hbel
  go_wp2
  go_ret2
  exact ⟨_, c, by simp, HG.out, HB.out⟩

end Go.Proofs.Ytkbbpjknakajeaa.Li
