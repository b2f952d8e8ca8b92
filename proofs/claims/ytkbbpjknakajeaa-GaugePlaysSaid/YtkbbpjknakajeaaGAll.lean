/- All gauges of a set: as many as there are counters. -/
import Derived.Test.YtkbbpjknakajeaaGVal
import Derived.Test.YtkbbpjknakajeaaNamesLaw
import Derived.WalkKit
import Derived.WalkSpells
import Derived.Deep.LoopGhost
import Derived.Lib.OthersKept
import Derived.BigQuiet
import Derived.Deep.QuietTactic
import Derived.Maps.RangeRun
namespace Go.Proofs.Ytkbbpjknakajeaa
open Go Go.Shelf Go.RowKit Go.Lib Go.Sort
open Go.ChangeMaps (setBlock)
theorem info52 : (Try.prog.info? 52).map (fun i => (i.zero, i.size, i.bytes)) = some (some (.agg #[.string ⟨#[]⟩, .int .i64 0]), 2, 24) := by kernel_rfl
theorem cell_two (w : World) (a b : Value) (t : TypeId) : ∀ j u, [a, b][j]? = some u → (w.alloc (.cells #[a, b] t)).cell? ((⟨w.heap.size, 0, none⟩ : Addr).add j) = some u := by
  intro j u hj
  match j, hj with
  | 0, hj => simp at hj; subst hj; simp [Addr.add]
  | 1, hj => simp at hj; subst hj; simp [Addr.add]
/-- the cells of gauges, one behind the other -/
def flatG : List (ByteArray × Int) → List Value
  | [] => []
  | x :: l => .string x.1 :: .int .i64 x.2 :: flatG l
theorem flatG_len : ∀ l, (flatG l).length = l.length * 2
  | [] => rfl
  | x :: l => by simp only [flatG, List.length_cons, flatG_len l]; omega
theorem flatG_snoc : ∀ l (x : ByteArray × Int), flatG (l ++ [x]) = flatG l ++ [.string x.1, .int .i64 x.2]
  | [], _ => rfl
  | y :: l, x => by simp only [flatG, List.cons_append, flatG_snoc l x]
theorem flatG_get : ∀ (l : List (ByteArray × Int)) (t : Nat), t < l.length * 2 → (flatG l)[t]? = some (encG (l.toArray[t / 2]!))[t % 2]!
  | [], t, h => by simp at h
  | x :: l, 0, _ => by simp [flatG, encG]
  | x :: l, 1, _ => by simp [flatG, encG]
  | x :: l, t + 2, h => by
    have h' : t < l.length * 2 := by simp only [List.length_cons] at h; omega
    have ih := flatG_get l t h'
    simp only [flatG, List.getElem?_cons_succ]
    rw [ih]
    have h1 : (t + 2) / 2 = t / 2 + 1 := by omega
    have h2 : (t + 2) % 2 = t % 2 := by omega
    have h3 : t / 2 < l.length := by omega
    rw [h1, h2, getElem!_pos _ (t / 2) (by simpa using h3), getElem!_pos _ (t / 2 + 1) (by simpa using h3)]
    simp
theorem holds_of_own {w : World} {base g cap : Nat} {l : List (ByteArray × Int)} (h : w.ownsRow base 52 2 (.slice (some ⟨g, 0, none⟩) l.length cap) l.length (flatG l)) : HoldsK encG 2 w g 0 l.toArray := by
  intro j hj
  have hj' : j < l.length * 2 := by simpa using hj
  refine ⟨?_, by simpa using h.frozenAt (0 + j)⟩
  have h1 := h.cellAt j hj'
  rw [flatG_get l j hj'] at h1
  rw [get_flatK encG 2 l.toArray j (by simpa using hj')]
  simpa using h1
theorem below_setBlock {B : Nat} {w w1 : World} (h : RowKit.Below B w w1) {r : Nat} (hr : B ≤ r) (o : Obj) : RowKit.Below B w (setBlock w1 r o) :=
  ⟨h.os, h.tape, h.output, by simpa [setBlock] using h.size, fun k hk => by
    rw [← h.block k hk]
    simp [setBlock, show ¬ r = k by omega]⟩
theorem grown_setBlock {w w1 : World} (hal : w1 = w ∨ w1 = w.drew) (r : Nat) (o : Obj) : w.grownBy (setBlock w1 r o) (some r) := by
  rcases hal with rfl | rfl <;> exact ⟨rfl, rfl, rfl, by simp [setBlock], fun k _ hk => by simp only [setBlock, Array.getElem?_setIfInBounds, if_neg (show ¬ r = k from fun e => hk (by rw [e]))]; try rfl⟩
theorem at_setBlock {w w1 : World} (hal : w1 = w ∨ w1 = w.drew) {r : Nat} (hr : r < w.heap.size) (o : Obj) : (setBlock w1 r o).heap[r]? = some o := by
  rcases hal with rfl | rfl <;> simp [setBlock, hr]
theorem seen_at {w : World} {r : Nat} {a : Option Nat} {b : Nat} {s : Array Nat} {c : Nat} (h : w.heap[r]? = some (.mapIter a b s c)) : w.iterSeen r = s := by unfold World.iterSeen; rw [h]
theorem CntAt.below {w w' : World} {v : Value} {z : Int} (h : CntAt w v z) (hb : RowKit.Below w.heap.size w w') :
    ∃ b o yb yo, v = .pointer (some ⟨b, o, none⟩) ∧ b < w'.heap.size ∧ yb < w'.heap.size ∧ w'.cell? ⟨b, o, none⟩ = some (.int .u32 1) ∧ w'.cell? ⟨b, o + 3, none⟩ = some (.pointer (some ⟨yb, yo, none⟩)) ∧ w'.cell? ⟨yb, yo, none⟩ = some (.int .i64 z) := by
  obtain ⟨b, o, yb, yo, rfl, h0, h3, hz⟩ := h.ex
  have l1 := World.block_lt_of_cell? w ⟨b, o, none⟩ h0
  have l2 := World.block_lt_of_cell? w ⟨yb, yo, none⟩ hz
  have hs := hb.size
  exact ⟨b, o, yb, yo, rfl, by simp at l1; omega, by simp at l2; omega, (hb.cell (p := ⟨b, o, none⟩) l1).trans h0, (hb.cell (p := ⟨b, o + 3, none⟩) l1).trans h3, (hb.cell (p := ⟨yb, yo, none⟩) l2).trans hz⟩
theorem left_one (es : Array MapEntry) (seen : Array Nat) (e : MapEntry) (he : e ∈ (leftOf es seen).toList) (hnd : (es.toList.map (·.born)).Nodup) : (leftOf es (seen.push e.born)).size + 1 = (leftOf es seen).size := by
  obtain ⟨hem, hs⟩ := mem_left he
  have key : ∀ (l : List MapEntry), (l.map (·.born)).Nodup → e ∈ l → (l.filter fun x => !(seen.push e.born).contains x.born).length + 1 = (l.filter fun x => !seen.contains x.born).length := by
    intro l
    induction l with
    | nil => intro _ h; cases h
    | cons x l ih =>
      intro hn h
      have hn' : x.born ∉ l.map (·.born) ∧ (l.map (·.born)).Nodup := List.nodup_cons.1 hn
      rcases List.mem_cons.1 h with rfl | h
      · have h1 : (l.filter fun x => !(seen.push e.born).contains x.born) = (l.filter fun x => !seen.contains x.born) := by
          refine List.filter_congr fun y hy => ?_
          rw [contains_push]
          have : (y.born == e.born) = false := by
            cases hc : y.born == e.born with
            | false => rfl
            | true => exact absurd (List.mem_map.2 ⟨y, hy, beq_iff_eq.1 hc⟩) hn'.1
          rw [this, Bool.or_false]
        rw [List.filter_cons, List.filter_cons, h1, contains_push, hs]
        simp
      · have ih' := ih hn'.2 h
        have hne : (x.born == e.born) = false := by
          cases hc : x.born == e.born with
          | false => rfl
          | true => exact absurd (List.mem_map.2 ⟨e, h, (beq_iff_eq.1 hc).symm⟩) hn'.1
        rw [List.filter_cons, List.filter_cons, contains_push, hne, Bool.or_false]
        cases seen.contains x.born with
        | true => simpa only [Bool.not_true, Bool.false_eq_true, if_false] using ih'
        | false => simp only [Bool.not_false, if_true, List.length_cons]; omega
  have := key es.toList hnd hem
  unfold leftOf
  have e1 : ∀ p : MapEntry → Bool, (es.filter p).size = (es.toList.filter p).length := fun p => by rw [← Array.toList_filter, Array.length_toList]
  rw [e1, e1]
  exact this
theorem left_none {es : Array MapEntry} : leftOf es #[] = es := by simp [leftOf]
set_option maxRecDepth 100000 in
theorem sort_nil_runs : AE.evCallF (AE.mkEnvL Try.prog) AE.noSums 1000 40 (.fn 40) [.slice none 0 0, .func (.func 41) #[] #[]] ⟨0, .nil⟩ ≠ [] ∧ ((AE.evCallF (AE.mkEnvL Try.prog) AE.noSums 1000 40 (.fn 40) [.slice none 0 0, .func (.func 41) #[] #[]] ⟨0, .nil⟩).all fun r => match r.1 with | .tuple vs => vs.isEmpty | _ => false) = true := by
  refine ⟨?_, by kernel_rfl⟩
  intro h
  have : (AE.evCallF (AE.mkEnvL Try.prog) AE.noSums 1000 40 (.fn 40) [.slice none 0 0, .func (.func 41) #[] #[]] ⟨0, .nil⟩).isEmpty = false := by kernel_rfl
  rw [h] at this
  cases this
theorem sort_nil (w : World) : Calls Try.prog 40 #[.slice none 0 0, .func (.func 41) #[] #[]] w fun e w' => e = .returned (.tuple #[]) ∧ RowKit.Below w.heap.size w w' := by
  obtain ⟨hne, hall⟩ := sort_nil_runs
  rw [AE.evCallF_eq] at hne hall
  refine ((AE.evCall_ok (w0 := w) (AE.mkEnvL_ok Try.prog) mixedG (AE.noSums_ok _ _ _) 1000 40).fn 40 _ ⟨0, .nil⟩ hne (fun _ => none) w #[.slice none 0 0, .func (.func 41) #[] #[]] (.cons (.refl rfl) (.cons (.func rfl (fun i hi => by simp at hi) rfl (fun i hi => by simp at hi)) (AE.VRL.nil _))) (AE.MR.start _ w)).mono ?_
  rintro e w' ⟨r, hr, σ', v', rfl, _, hv, hM⟩
  have h1 := List.all_eq_true.1 hall r hr
  split at h1
  · rename_i vs hvs
    rw [hvs] at hv
    obtain ⟨vs', rfl, hv2⟩ := hv.tuple_inv
    have h2 : vs = #[] := by simpa using h1
    subst h2
    have h3 : vs' = #[] := by
      have := hv2.1
      simp at this
      exact Array.eq_empty_of_size_eq_zero this.symm
    subst h3
    exact ⟨rfl, hM.below⟩
  · cases h1
set_option maxRecDepth 1000000 in
set_option maxHeartbeats 4000000 in
theorem all_any (sb so mb : Nat) (es : Array MapEntry) (clock : Nat) (w : World) (hs : w.cell? ⟨sb, so, none⟩ = some (.map (some mb))) (hm : w.heap[mb]? = some (.map es clock)) (hold : ∀ x ∈ es.toList, x.born < clock) (hnd : (es.toList.map (·.born)).Nodup)
    (hes : ∀ e ∈ es.toList, ∃ s z, e.key = .string s ∧ CntAt w e.val z) (h100 : es.size ≤ 1000) :
    Calls Try.prog 21 #[.pointer (some ⟨sb, so, none⟩)] w fun x w' => (∃ a cap, x = .returned (.slice a es.size cap)) ∧ RowKit.Below w.heap.size w w' := by
  obtain ⟨i0, hi, hz0, hz1, hz2⟩ := info_parts info52
  have hmb : mb < w.heap.size := (Array.getElem?_eq_some_iff.1 hm).1
  have hrg := run_range_map (P := Try.prog) w 70 9 34 mb es clock Try.underlying70 hm
  go_enter Try.func21, Try.ntmps21
  go_wp2
  go_loopw [3] (fun v wr => ∃ (seen : Array Nat) (l : List (ByteArray × Int)), wr.heap[w.heap.size]? = some (.mapIter (some mb) clock seen clock) ∧ wr.ownsRow (w.heap.size + 1) 52 2 v l.length (flatG l) ∧ Hid (RowKit.Below w.heap.size w wr) ∧ l.length + (leftOf es seen).size = es.size) (fun _ wr => (leftOf es (wr.iterSeen w.heap.size)).size)
  case atStart => exact ⟨#[], [], heap_alloc_new w _, World.ownsRow_nil _ _ _ _, Lib.hid ((Below.refl _ _).alloc (Nat.le_refl _) _), by rw [left_none]; simp⟩
  case round =>
    obtain ⟨seen, l, hit, hown, hbw, hcnt⟩ := hrel
    have hlt : w.heap.size < wr.heap.size := (Array.getElem?_eq_some_iff.1 hit).1
    have law := run_next_at (P := Try.prog) wr 0 w.heap.size mb clock clock seen es clock hit ((hbw.out.block mb hmb).trans hm) hold (Nat.le_refl _)
    rcases law with ⟨h0, hrun⟩ | ⟨e, he, w1, hal, hrun⟩
    · have hnx : ∀ ty, (Instr.next (.pointer (some ⟨w.heap.size, 0, none⟩)) false ty).run Try.prog wr = _ := fun _ => hrun
      have hle : l.length = es.size := by omega
      rcases hown.2 with ⟨rfl, hl0⟩ | ⟨g, cap, cur, rfl, hg, hgc, _⟩
      · have HE := Lib.hid (show es.size = 0 by omega)
        clear hown hcnt h0 hrun hle hl0
        go_wp2_with (go_at_call 40; refine (sort_nil _).mono ?_; rintro e w' ⟨rfl, hB⟩; have HB := Lib.hid hB; clear hB)
        go_ret
        exact ⟨⟨none, 0, by rw [HE.out]; rfl⟩, hbw.out.trans (HB.out.mono hbw.out.size)⟩
      · have c40 : Calls Try.prog 40 #[.slice (some ⟨g, 0, none⟩) l.length cap, .func (.func 41) #[] #[]] wr fun e w' => e = .returned (.tuple #[]) ∧ RowKit.Below w.heap.size wr w' :=
          sort_c g cap l.toArray wr (holds_of_own hown) (Array.getElem?_eq_some_iff.1 hgc).1 (by simp; omega) (by omega)
        have HE := Lib.hid hle
        clear hown hcnt h0 hrun hle hg hgc
        go_wp2_with (go_at_call 40; refine c40.mono ?_; clear c40; rintro e w' ⟨rfl, hB⟩; have HB := Lib.hid hB; clear hB)
        go_ret
        exact ⟨⟨_, cap, by rw [← HE.out]; rfl⟩, hbw.out.trans HB.out⟩
    · obtain ⟨hem, hes'⟩ := mem_left he
      obtain ⟨s, z, hk, hc⟩ := hes e hem
      have hit1 := at_setBlock hal hlt (.mapIter (some mb) clock (seen.push e.born) clock)
      have hbw1 : RowKit.Below w.heap.size w (setBlock w1 w.heap.size (.mapIter (some mb) clock (seen.push e.born) clock)) := below_setBlock (by rcases hal with rfl | rfl; exact hbw.out; exact hbw.out.drew) (Nat.le_refl _) _
      have hown1 := hown.kept (grown_setBlock hal w.heap.size (.mapIter (some mb) clock (seen.push e.born) clock)) (Or.inr (fun h => by have := (hown.lt _ h).1; omega))
      have hen := run_entry_at (P := Try.prog) _ w.heap.size mb clock seen es clock e hit1 ((hbw1.block mb hmb).trans hm) hem hnd
      obtain ⟨W1, hW1⟩ : ∃ W1, setBlock w1 w.heap.size (.mapIter (some mb) clock (seen.push e.born) clock) = W1 := ⟨_, rfl⟩
      rw [hW1] at hit1 hbw1 hown1 hen hrun
      obtain ⟨b, o, yb, yo, hv, hb1, hyb1, q0, q3, qz⟩ := hc.below hbw1
      rw [hk, hv] at hen hrun
      have hnx : ∀ ty, (Instr.next (.pointer (some ⟨w.heap.size, 0, none⟩)) false ty).run Try.prog wr = _ := fun _ => hrun
      have cv := value_any b o yb yo z W1 q0 q3 qz hb1 hyb1
      have hsh := left_shrinks es seen e he
      have hsh1 : (leftOf es (seen.push e.born)).size + 1 = (leftOf es seen).size := left_one es seen e he hnd
      have hlen : l.length + 1 ≤ 1000 := by omega
      have HX := Lib.hid (And.intro hit hcnt)
      have HY := Lib.hid (And.intro hsh hsh1)
      have HO1 := Lib.hid (And.intro hown1 (And.intro hit1 hbw1))
      clear hown hcnt hsh hsh1 hc hes' hem hk hv hal hW1 q0 q3 qz hb1 hyb1 he hit hown1 hit1 hbw1
      go_wp2_with (first
        | (go_at_call 20; refine cv.mono ?_; clear cv; rintro e2 w2 ⟨rfl, ob, hw2⟩
           have hown2 := HO1.out.1.alloc ob
           rw [← hw2] at hown2
           have hsz2 : w.heap.size < w2.heap.size := by rw [hw2]; have := (Array.getElem?_eq_some_iff.1 HO1.out.2.1).1; simp; omega
           have HZ := Lib.hid (show w2.heap[w.heap.size]? = some (.mapIter (some mb) clock (seen.push e.born) clock) ∧ RowKit.Below w.heap.size w w2 by
             rw [hw2]
             exact ⟨(heap_alloc_old W1 ob (Array.getElem?_eq_some_iff.1 HO1.out.2.1).1).trans HO1.out.2.1, HO1.out.2.2.alloc (Nat.le_of_lt (Array.getElem?_eq_some_iff.1 HO1.out.2.1).1) _⟩)
           clear hw2)
        | (at_builtin
           refine wpList_append_own_at _ rfl _ _ 39 rfl (w.heap.size + 1) 52 i0 (.agg #[.string ⟨#[]⟩, .int .i64 0]) 2 24 Try.underlying39 hi hz0 hz1 hz2 rfl (by decide) _ _ _ rfl (hown2.alloc _) ⟨w2.heap.size, 0, none⟩ 1 1 [.string s, .int .i64 z] rfl rfl (cell_two _ _ _ _) (by intro u hu; simp at hu; rcases hu with rfl | rfl <;> rfl) (by simp [maxLen]; omega) (by omega) (by simp; omega) ?_
           intro v' w3 hown' hgrow3 hnil3 hat3
           have X := Lib.hid (show w3.ownsRow (w.heap.size + 1) 52 2 v' (l.length + 1) (flatG l ++ [.string s, .int .i64 z]) ∧ w3.heap[w.heap.size]? = some (.mapIter (some mb) clock (seen.push e.born) clock) ∧ RowKit.Below w.heap.size w w3 by
             refine ⟨hown', ?_, ?_⟩
             · rw [hgrow3.block w.heap.size (by simp; omega) (fun h => by have := (hown2.lt _ h.symm).1; omega), Below.heap_alloc _ _ _ hsz2]; exact HZ.out.1
             · exact Below.grown (HZ.out.2.alloc (by omega) _) hgrow3 (by simp; omega) (fun j hj => by have := (hown2.lt _ hj).1; omega))
           clear hown' hgrow3 hnil3 hat3))
      go_roundw
      case rel => exact ⟨seen.push e.born, l ++ [(s, z)], X.out.2.1, by rw [flatG_snoc, List.length_append]; exact X.out.1, Lib.hid X.out.2.2, by rw [List.length_append]; have := HX.out.2; have := HY.out.2; simp; omega⟩
      case measure =>
        rw [seen_at X.out.2.1, seen_at HX.out.1]
        exact HY.out.1
end Go.Proofs.Ytkbbpjknakajeaa
