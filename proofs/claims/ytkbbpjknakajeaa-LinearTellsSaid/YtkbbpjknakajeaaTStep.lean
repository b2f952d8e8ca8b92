/- A step of a queue, and where the new queue lies: where the old one lay, or in a new row. -/
import Derived.Test.YtkbbpjknakajeaaTellsA
namespace Go.Proofs.Ytkbbpjknakajeaa.Li
open Go.RowKit Go.Shelf Go.Sort
def Stepped2 (orig : Option Nat) (w : World) (q' : Array Int) (e : Ending) (w' : World) : Prop := ∃ a c, e = .returned (.tuple #[.slice a q'.size c, .bool true]) ∧ Good w' a c q' ∧ Below w.heap.size w w' ∧ ∀ g o, a = some ⟨g, o, none⟩ → w.heap.size ≤ g ∨ orig = some g
theorem stepped_own2 {w W w' : World} {q : Array Int} {v : Int} {v' : Value} (hb : Below w.heap.size w W) (ho : w'.ownsRow W.heap.size 3 1 v' (q.size + 1) (q.toList.map (Value.int .i64) ++ [.int .i64 v])) (hg : W.grownBy w' none) :
    ∃ g c, v' = .slice (some ⟨g, 0, none⟩) (q.size + 1) c ∧ Good w' (some ⟨g, 0, none⟩) c (q.push v) ∧ Below w.heap.size w w' ∧ w.heap.size ≤ g := by
  obtain ⟨g, c, rfl, hc, hg1, hg2⟩ := own_some ho (by omega)
  have hH := own_holds (n := q.size + 1) (zs := q.toList ++ [v]) (by simpa using ho) (by simp)
  refine ⟨g, c, rfl, .inr ⟨g, 0, rfl, by simpa using hc, hg2, ?_⟩, hb.grown hg hb.size (fun j hj => by cases hj), Nat.le_trans hb.size hg1⟩
  have := holds_reads hH
  rwa [show (q.toList ++ [v]).toArray = q.push v from Array.ext' (by simp)] at this
theorem Stepped2.weaken {orig : Option Nat} {w : World} {q' : Array Int} {e : Ending} {w' : World} (h : Stepped2 none w q' e w') : Stepped2 orig w q' e w' := by
  obtain ⟨a, c, h1, h2, h3, h4⟩ := h
  exact ⟨a, c, h1, h2, h3, fun g o hg => (h4 g o hg).elim .inl (fun e => by cases e)⟩
set_option maxHeartbeats 3200000 in
set_option maxRecDepth 1000000 in
theorem step_put_some2 (b off cap : Nat) (q : Array Int) (v f t : Int) (hs : q.size ≤ 1000) (w : World) (hcap : q.size ≤ cap) (hb : b < w.heap.size) (hr : Reads w b off q) :
    Calls Try.prog 35 #[.slice (some ⟨b, off, none⟩) q.size cap, QOp.val ⟨true, v, f, t⟩] w (Stepped2 none w (q.push v)) := by
  obtain ⟨t0, hi, hz0, hz1, hz2⟩ := info_parts info3
  have HR := Lib.hid hr
  have hm : q.size + 1 ≤ maxLen := Nat.le_trans (by omega : q.size + 1 ≤ 1001) (by decide)
  clear hr
  unfold QOp.val
  go_enter Try.func35, Try.ntmps35
  go_wp2_with fail
  have HS := sc_new w true v f t
  have HC1 : ∀ (j : Nat) u, [Value.int .i64 v][j]? = some u → ((w.alloc (.cells #[.bool true, .int .i64 v, .int .i64 f, .int .i64 t] 58)).alloc (.cells #[.int .i64 v] 3)).cell? ((Addr.mk (w.heap.size + 1) 0 none).add j) = some u := by
    have := cell_one_new (w.alloc (.cells #[.bool true, .int .i64 v, .int .i64 f, .int .i64 t] 58)) (.int .i64 v) 3
    rwa [World.size_alloc] at this
  have HC := Lib.hid HC1
  clear HC1
  go_region_held3 (fun W => Below w.heap.size w W ∧ w.heap.size < W.heap.size ∧ W.cell? ⟨w.heap.size, 1, none⟩ = some (.int .i64 v))
    (first | exact HS | (go_split_ands; first | exact sc_drew ⟨by assumption, by assumption, by assumption⟩ | exact sc_alloc _ ⟨by assumption, by assumption, by assumption⟩ | exact sc_grown ⟨by assumption, by assumption, by assumption⟩ hgrow | exact sc_grown (sc_alloc _ ⟨by assumption, by assumption, by assumption⟩) hgrow | exact sc_grown (sc_drew (sc_alloc _ ⟨by assumption, by assumption, by assumption⟩)) hgrow))
    ((refine step_append_grows rfl (.tmp 14) (.tmp 17) 24 rfl 3 t0 _ 1 8 Try.underlying24 hi hz0 hz1 hz2 rfl (by decide) (some ⟨b, off, none⟩) q.size q.size (q.toList.map (Value.int .i64)) rfl (fun h => by cases h) (by simp) (reads_list (HR.out.below hb (((Below.refl _ w).alloc (Nat.le_refl _) _).alloc (by simp) _).drew)) ⟨w.heap.size + 1, 0, none⟩ 1 1 [.int .i64 v] rfl rfl (by exact HC.out) (by simp [Value.oneCell']) (by omega) hm (by omega) ?_; intro v' w' hown hgrow))
  rename_i hHeld
  clear hHeld HS HC
  obtain ⟨g, c, rfl, hgood, hbel, hnew⟩ := stepped_own2 (((Below.refl _ w).alloc (Nat.le_refl _) _).alloc (by simp) _).drew hown hgrow
  have HG := Lib.hid hgood
  have HB := Lib.hid hbel
  have HNW := Lib.hid hnew
  clear hown hgrow hgood hbel hnew
  go_wp2
  go_ret2
  exact ⟨_, c, by simp, HG.out, HB.out, fun g' o' h' => by cases h'; exact .inl HNW.out⟩

set_option maxHeartbeats 3200000 in
set_option maxRecDepth 1000000 in
theorem step_put_nil2 (v f t : Int) (w : World) : Calls Try.prog 35 #[.slice none 0 0, QOp.val ⟨true, v, f, t⟩] w (Stepped2 none w #[v]) := by
  obtain ⟨t0, hi, hz0, hz1, hz2⟩ := info_parts info3
  have hm : 0 + 1 ≤ maxLen := by decide
  unfold QOp.val
  go_enter Try.func35, Try.ntmps35
  go_wp2_with fail
  have HS := sc_new w true v f t
  have HC1 : ∀ (j : Nat) u, [Value.int .i64 v][j]? = some u → ((w.alloc (.cells #[.bool true, .int .i64 v, .int .i64 f, .int .i64 t] 58)).alloc (.cells #[.int .i64 v] 3)).cell? ((Addr.mk (w.heap.size + 1) 0 none).add j) = some u := by
    have := cell_one_new (w.alloc (.cells #[.bool true, .int .i64 v, .int .i64 f, .int .i64 t] 58)) (.int .i64 v) 3
    rwa [World.size_alloc] at this
  have HC := Lib.hid HC1
  clear HC1
  go_region_held3 (fun W => Below w.heap.size w W ∧ w.heap.size < W.heap.size ∧ W.cell? ⟨w.heap.size, 1, none⟩ = some (.int .i64 v))
    (first | exact HS | (go_split_ands; first | exact sc_drew ⟨by assumption, by assumption, by assumption⟩ | exact sc_alloc _ ⟨by assumption, by assumption, by assumption⟩ | exact sc_grown ⟨by assumption, by assumption, by assumption⟩ hgrow | exact sc_grown (sc_alloc _ ⟨by assumption, by assumption, by assumption⟩) hgrow | exact sc_grown (sc_drew (sc_alloc _ ⟨by assumption, by assumption, by assumption⟩)) hgrow))
    ((refine step_append_grows rfl (.tmp 14) (.tmp 17) 24 rfl 3 t0 _ 1 8 Try.underlying24 hi hz0 hz1 hz2 rfl (by decide) none 0 0 [] rfl (fun _ => ⟨rfl, rfl⟩) rfl (fun b h => by cases h) ⟨w.heap.size + 1, 0, none⟩ 1 1 [.int .i64 v] rfl rfl (by exact HC.out) (by simp [Value.oneCell']) (by omega) hm (by omega) ?_; intro v' w' hown hgrow))
  rename_i hHeld
  clear hHeld HS HC
  obtain ⟨g, c, rfl, hgood, hbel, hnew⟩ := stepped_own2 (q := #[]) (((Below.refl _ w).alloc (Nat.le_refl _) _).alloc (by simp) _).drew hown hgrow
  have HG := Lib.hid hgood
  have HB := Lib.hid hbel
  have HNW := Lib.hid hnew
  clear hown hgrow hgood hbel hnew
  go_wp2
  go_ret2
  exact ⟨_, c, by simp, HG.out, HB.out, fun g' o' h' => by cases h'; exact .inl HNW.out⟩

def StepRes2 (orig : Option Nat) (w : World) (o : Option (Array Int)) (e : Ending) (w' : World) : Prop :=
  match o with
  | some q' => Stepped2 orig w q' e w'
  | none => Refused w e w'
def blkOf : Option Addr → Option Nat := fun a => a.map (·.block)
theorem step_any2 (a : Option Addr) (cap : Nat) (q : Array Int) (x : QOp) (hs : q.size ≤ 1000) (w : World) (hg : Good w a cap q) :
    Calls Try.prog 35 #[.slice a q.size cap, x.val] w (StepRes2 (blkOf a) w (stepA q x)) := by
  obtain ⟨p, v, f, t⟩ := x
  cases p with
  | true =>
    have e : stepA q ⟨true, v, f, t⟩ = some (q.push v) := by simp [stepA]
    rw [e]
    rcases hg with ⟨rfl, rfl, rfl⟩ | ⟨b, off, rfl, hc, hb, hr⟩
    · exact (step_put_nil2 v f t w).mono fun _ _ h => h.weaken
    · exact (step_put_some2 b off cap q v f t hs w hc hb hr).mono fun _ _ h => h.weaken
  | false =>
    by_cases hv : v < 0
    · by_cases h0 : q.size = 0
      · have e : stepA q ⟨false, v, f, t⟩ = some q := by simp [stepA, hv, h0]
        rw [e, h0]
        refine (step_neg0 a cap v f t hv w).mono ?_
        rintro e w' ⟨rfl, hb⟩
        exact ⟨a, cap, by rw [h0], hg.below hb, hb, fun g o ha => .inr (by rw [ha]; rfl)⟩
      · have e : stepA q ⟨false, v, f, t⟩ = none := by simp [stepA, hv, h0]
        rw [e]
        exact step_neg1 a q.size cap v f t hv (by omega) hs w
    · by_cases h0 : q.size = 0
      · have e : stepA q ⟨false, v, f, t⟩ = none := by simp [stepA, hv, h0]
        rw [e, h0]
        exact step_empty a cap v f t hv w
      · rcases hg with ⟨rfl, rfl, rfl⟩ | ⟨b, off, rfl, hc, hb, hr⟩
        · exact absurd rfl h0
        · have c0 := hr 0 (by omega)
          rw [Nat.add_zero] at c0
          by_cases hy : q[0]! = v
          · have e : stepA q ⟨false, v, f, t⟩ = some (q.extract 1 q.size) := by simp [stepA, hv, h0, hy]
            rw [e]
            rw [hy] at c0
            refine (step_take b off q.size cap v f t hv (by omega) hs hc w hb c0).mono ?_
            rintro e w' ⟨⟨o, ho, rfl⟩, hB⟩
            refine ⟨some ⟨b, o, none⟩, cap - 1, by simp, .inr ⟨b, o, rfl, by simp; omega, Nat.lt_of_lt_of_le hb hB.size, ?_⟩, hB, fun g o' ha => by cases ha; exact .inr rfl⟩
            intro j hj
            simp only [Array.size_extract] at hj
            rw [ho (by omega)]
            have := (hr.below hb hB) (1 + j) (by omega)
            rw [getElem!_pos q _ (by omega)] at this
            rw [getElem!_pos _ j (by simp; omega), Nat.add_assoc, this]
            simp
          · have e : stepA q ⟨false, v, f, t⟩ = none := by simp [stepA, hv, h0, hy]
            rw [e]
            exact step_other b off q.size cap q[0]! v f t hv (by omega) hs hy w hb c0
end Go.Proofs.Ytkbbpjknakajeaa.Li
