/- All gauges of a set: what the row holds: the counters with what they have counted, in order of their names. -/
import Derived.Test.YtkbbpjknakajeaaGAll
namespace Go.Proofs.Ytkbbpjknakajeaa
open Go Go.Shelf Go.RowKit Go.Lib Go.Sort
open Go.ChangeMaps (setBlock)
theorem left_perm (es : Array MapEntry) (seen : Array Nat) (e : MapEntry) (he : e ∈ (leftOf es seen).toList) (hnd : (es.toList.map (·.born)).Nodup) : (leftOf es seen).toList.Perm (e :: (leftOf es (seen.push e.born)).toList) := by
  obtain ⟨hem, hs⟩ := mem_left he
  have key : ∀ (l : List MapEntry), (l.map (·.born)).Nodup → e ∈ l → (l.filter fun x => !seen.contains x.born).Perm (e :: (l.filter fun x => !(seen.push e.born).contains x.born)) := by
    intro l
    induction l with
    | nil => intro _ h; cases h
    | cons x l ih =>
      intro hn h
      have hn' : x.born ∉ l.map (·.born) ∧ (l.map (·.born)).Nodup := List.nodup_cons.1 hn
      rcases List.mem_cons.1 h with rfl | h
      · have h1 : (l.filter fun x => !(seen.push e.born).contains x.born) = (l.filter fun x => !seen.contains x.born) := by
          refine List.filter_congr fun y hy => ?_
          rw [contains_push]
          have : (y.born == e.born) = false := by
            cases hc : y.born == e.born with
            | false => rfl
            | true => exact absurd (List.mem_map.2 ⟨y, hy, beq_iff_eq.1 hc⟩) hn'.1
          rw [this, Bool.or_false]
        rw [List.filter_cons, List.filter_cons, h1, contains_push, hs]
        simp
      · have ih' := ih hn'.2 h
        have hne : (x.born == e.born) = false := by
          cases hc : x.born == e.born with
          | false => rfl
          | true => exact absurd (List.mem_map.2 ⟨e, h, (beq_iff_eq.1 hc).symm⟩) hn'.1
        rw [List.filter_cons, List.filter_cons, contains_push, hne, Bool.or_false]
        cases seen.contains x.born with
        | true => simpa only [Bool.not_true, Bool.false_eq_true, if_false] using ih'
        | false =>
          simp only [Bool.not_false, if_true]
          exact (ih'.cons x).trans (List.Perm.swap e x _)
  have := key es.toList hnd hem
  unfold leftOf
  rw [Array.toList_filter, Array.toList_filter]
  exact this
theorem sort_full (blk cap : Nat) (d : Array (ByteArray × Int)) (w : World) (hH : HoldsK encG 2 w blk 0 d) (hblk : blk < w.heap.size) (hsz : d.size ≤ 1000) {B : Nat} (hB : B ≤ blk) :
    Calls Try.prog 40 #[.slice (some ⟨blk, 0, none⟩) d.size cap, .func (.func 41) #[] #[]] w fun e w' => e = .returned (.tuple #[]) ∧ RowKit.Below B w w' ∧ ∃ d' : Array (ByteArray × Int), d'.size = d.size ∧ d'.toList.Perm d.toList ∧ SortedIn (ltOf cfG) 0 d'.size d' ∧ HoldsK encG 2 w' blk 0 d' ∧ blk < w'.heap.size := by
  have eg : ∀ args w, (callFunc 41 args).run Try.prog w = .ok (.enter 41 args) w := enters_of Try.func41 (by kernel_rfl) rfl
  have hcon := AnyQ.slices_SortFunc Try.sortG 2 Try.isAgg52 Try.sizeOf52 encG (fun _ => rfl) (fun x v hv => by simp [encG] at hv; rcases hv with rfl | rfl <;> rfl) cfG swoG 41 #[] blk 0 cap d w eg (cmpLays41 blk 0 d.size w) hH hblk (by omega)
  change Calls Try.prog 40 _ _ _ at hcon
  refine hcon.mono ?_
  rintro e w' ⟨rfl, d', n, os, hp, hso, rfl⟩
  have hs : d'.size = d.size := hp.1
  have hpp : d'.toList.Perm d.toList := by
    have h := hp.2.2
    have e1 : d'.extract 0 d.size = d' := by rw [← hs]; simp
    have e2 : d.extract 0 d.size = d := by simp
    rw [e1, e2] at h
    exact h
  exact ⟨rfl, below_sorted encG 2 w blk 0 n d' os hB hblk, d', hs, hpp, by rw [hs]; exact hso, holdsK_sortWorldK_c encG 2 w blk 0 d d' n os hH hblk hs, Nat.lt_of_lt_of_le hblk (size_sortWorldK_c encG 2 w blk 0 n d' os)⟩
set_option maxRecDepth 1000000 in
set_option maxHeartbeats 4000000 in
theorem all_rows (f : MapEntry → ByteArray × Int) (sb so mb : Nat) (es : Array MapEntry) (clock : Nat) (w : World) (hs : w.cell? ⟨sb, so, none⟩ = some (.map (some mb))) (hm : w.heap[mb]? = some (.map es clock)) (hold : ∀ x ∈ es.toList, x.born < clock) (hnd : (es.toList.map (·.born)).Nodup)
    (hes : ∀ e ∈ es.toList, e.key = .string (f e).1 ∧ CntAt w e.val (f e).2) (h100 : es.size ≤ 1000) :
    Calls Try.prog 21 #[.pointer (some ⟨sb, so, none⟩)] w fun x w' => (∃ a cap, x = .returned (.slice a es.size cap) ∧ (es.size = 0 ∨ ∃ g d, a = some ⟨g, 0, none⟩ ∧ g < w'.heap.size ∧ d.size = es.size ∧ d.toList.Perm (es.toList.map f) ∧ SortedIn (ltOf cfG) 0 d.size d ∧ HoldsK encG 2 w' g 0 d)) ∧ RowKit.Below w.heap.size w w' := by
  obtain ⟨i0, hi, hz0, hz1, hz2⟩ := info_parts info52
  have hmb : mb < w.heap.size := (Array.getElem?_eq_some_iff.1 hm).1
  have hrg := run_range_map (P := Try.prog) w 70 9 34 mb es clock Try.underlying70 hm
  go_enter Try.func21, Try.ntmps21
  go_wp2
  go_loopw [3] (fun v wr => ∃ (seen : Array Nat) (l : List (ByteArray × Int)), wr.heap[w.heap.size]? = some (.mapIter (some mb) clock seen clock) ∧ wr.ownsRow (w.heap.size + 1) 52 2 v l.length (flatG l) ∧ Hid (RowKit.Below w.heap.size w wr) ∧ Hid ((l ++ (leftOf es seen).toList.map f).Perm (es.toList.map f)) ∧ l.length + (leftOf es seen).size = es.size) (fun _ wr => (leftOf es (wr.iterSeen w.heap.size)).size)
  case atStart => exact ⟨#[], [], heap_alloc_new w _, World.ownsRow_nil _ _ _ _, Lib.hid ((Below.refl _ _).alloc (Nat.le_refl _) _), Lib.hid (by rw [left_none]; exact List.Perm.refl _), by rw [left_none]; simp⟩
  case round =>
    obtain ⟨seen, l, hit, hown, hbw, hperm, hcnt⟩ := hrel
    have hlt : w.heap.size < wr.heap.size := (Array.getElem?_eq_some_iff.1 hit).1
    have law := run_next_at (P := Try.prog) wr 0 w.heap.size mb clock clock seen es clock hit ((hbw.out.block mb hmb).trans hm) hold (Nat.le_refl _)
    rcases law with ⟨h0, hrun⟩ | ⟨e, he, w1, hal, hrun⟩
    · have hnx : ∀ ty, (Instr.next (.pointer (some ⟨w.heap.size, 0, none⟩)) false ty).run Try.prog wr = _ := fun _ => hrun
      have hle : l.length = es.size := by omega
      rcases hown.2 with ⟨rfl, hl0⟩ | ⟨g, cap, cur, rfl, hg, hgc, _⟩
      · have HE := Lib.hid (show es.size = 0 by omega)
        clear hown hcnt h0 hrun hle hl0
        go_wp2_with (go_at_call 40; refine (sort_nil _).mono ?_; rintro e w' ⟨rfl, hB⟩; have HB := Lib.hid hB; clear hB)
        go_ret
        exact ⟨⟨none, 0, by rw [HE.out]; rfl, .inl HE.out⟩, hbw.out.trans (HB.out.mono hbw.out.size)⟩
      · have c40 : Calls Try.prog 40 #[.slice (some ⟨g, 0, none⟩) l.length cap, .func (.func 41) #[] #[]] wr fun e w' => e = .returned (.tuple #[]) ∧ RowKit.Below w.heap.size wr w' ∧ ∃ d : Array (ByteArray × Int), d.size = l.length ∧ d.toList.Perm l ∧ SortedIn (ltOf cfG) 0 d.size d ∧ HoldsK encG 2 w' g 0 d ∧ g < w'.heap.size :=
          sort_full g cap l.toArray wr (holds_of_own hown) (Array.getElem?_eq_some_iff.1 hgc).1 (by simp; omega) (by omega)
        have hpl : l.Perm (es.toList.map f) := by
          have h1 : (leftOf es seen).toList = [] := by
            have : (leftOf es seen).toList.length = 0 := by simpa using h0
            exact List.eq_nil_of_length_eq_zero this
          have h2 := hperm.out
          rw [h1] at h2
          simpa using h2
        have HE := Lib.hid (And.intro hle hpl)
        clear hown hcnt h0 hrun hle hg hgc hpl
        go_wp2_with (go_at_call 40; refine c40.mono ?_; clear c40; rintro e w' ⟨rfl, hB⟩; have HB := Lib.hid hB; clear hB)
        go_ret
        obtain ⟨hB, d, d1, d2, d3, d4, d5⟩ := HB.out
        exact ⟨⟨_, cap, by rw [← HE.out.1]; rfl, .inr ⟨g, d, rfl, d5, d1.trans HE.out.1, d2.trans HE.out.2, d3, d4⟩⟩, hbw.out.trans hB⟩
    · obtain ⟨hem, hes'⟩ := mem_left he
      obtain ⟨hk, hc⟩ := hes e hem
      obtain ⟨s, hs1⟩ : ∃ s, (f e).1 = s := ⟨_, rfl⟩
      obtain ⟨z, hz1⟩ : ∃ z, (f e).2 = z := ⟨_, rfl⟩
      rw [hs1] at hk
      rw [hz1] at hc
      have hfe : f e = (s, z) := by rw [← hs1, ← hz1]
      have hp2 : ((l ++ [(s, z)]) ++ (leftOf es (seen.push e.born)).toList.map f).Perm (es.toList.map f) := by
        refine List.Perm.trans ?_ hperm.out
        rw [List.append_assoc]
        refine List.Perm.append_left l ?_
        have := ((left_perm es seen e he hnd).map f).symm
        rw [List.map_cons, hfe] at this
        exact this
      have hit1 := at_setBlock hal hlt (.mapIter (some mb) clock (seen.push e.born) clock)
      have hbw1 : RowKit.Below w.heap.size w (setBlock w1 w.heap.size (.mapIter (some mb) clock (seen.push e.born) clock)) := below_setBlock (by rcases hal with rfl | rfl; exact hbw.out; exact hbw.out.drew) (Nat.le_refl _) _
      have hown1 := hown.kept (grown_setBlock hal w.heap.size (.mapIter (some mb) clock (seen.push e.born) clock)) (Or.inr (fun h => by have := (hown.lt _ h).1; omega))
      have hen := run_entry_at (P := Try.prog) _ w.heap.size mb clock seen es clock e hit1 ((hbw1.block mb hmb).trans hm) hem hnd
      obtain ⟨W1, hW1⟩ : ∃ W1, setBlock w1 w.heap.size (.mapIter (some mb) clock (seen.push e.born) clock) = W1 := ⟨_, rfl⟩
      rw [hW1] at hit1 hbw1 hown1 hen hrun
      obtain ⟨b, o, yb, yo, hv, hb1, hyb1, q0, q3, qz⟩ := hc.below hbw1
      rw [hk, hv] at hen hrun
      have hnx : ∀ ty, (Instr.next (.pointer (some ⟨w.heap.size, 0, none⟩)) false ty).run Try.prog wr = _ := fun _ => hrun
      have cv := value_any b o yb yo z W1 q0 q3 qz hb1 hyb1
      have hsh := left_shrinks es seen e he
      have hsh1 : (leftOf es (seen.push e.born)).size + 1 = (leftOf es seen).size := left_one es seen e he hnd
      have hlen : l.length + 1 ≤ 1000 := by omega
      have HX := Lib.hid (And.intro hit hcnt)
      have HP := Lib.hid hp2
      have HY := Lib.hid (And.intro hsh hsh1)
      have HO1 := Lib.hid (And.intro hown1 (And.intro hit1 hbw1))
      clear hown hcnt hp2 hperm hs1 hz1 hfe hsh hsh1 hc hes' hem hk hv hal hW1 q0 q3 qz hb1 hyb1 he hit hown1 hit1 hbw1
      go_wp2_with (first
        | (go_at_call 20; refine cv.mono ?_; clear cv; rintro e2 w2 ⟨rfl, ob, hw2⟩
           have hown2 := HO1.out.1.alloc ob
           rw [← hw2] at hown2
           have hsz2 : w.heap.size < w2.heap.size := by rw [hw2]; have := (Array.getElem?_eq_some_iff.1 HO1.out.2.1).1; simp; omega
           have HZ := Lib.hid (show w2.heap[w.heap.size]? = some (.mapIter (some mb) clock (seen.push e.born) clock) ∧ RowKit.Below w.heap.size w w2 by
             rw [hw2]
             exact ⟨(heap_alloc_old W1 ob (Array.getElem?_eq_some_iff.1 HO1.out.2.1).1).trans HO1.out.2.1, HO1.out.2.2.alloc (Nat.le_of_lt (Array.getElem?_eq_some_iff.1 HO1.out.2.1).1) _⟩)
           clear hw2)
        | (at_builtin
           refine wpList_append_own_at _ rfl _ _ 39 rfl (w.heap.size + 1) 52 i0 (.agg #[.string ⟨#[]⟩, .int .i64 0]) 2 24 Try.underlying39 hi hz0 hz1 hz2 rfl (by decide) _ _ _ rfl (hown2.alloc _) ⟨w2.heap.size, 0, none⟩ 1 1 [.string s, .int .i64 z] rfl rfl (cell_two _ _ _ _) (by intro u hu; simp at hu; rcases hu with rfl | rfl <;> rfl) (by simp [maxLen]; omega) (by omega) (by simp; omega) ?_
           intro v' w3 hown' hgrow3 hnil3 hat3
           have X := Lib.hid (show w3.ownsRow (w.heap.size + 1) 52 2 v' (l.length + 1) (flatG l ++ [.string s, .int .i64 z]) ∧ w3.heap[w.heap.size]? = some (.mapIter (some mb) clock (seen.push e.born) clock) ∧ RowKit.Below w.heap.size w w3 by
             refine ⟨hown', ?_, ?_⟩
             · rw [hgrow3.block w.heap.size (by simp; omega) (fun h => by have := (hown2.lt _ h.symm).1; omega), Below.heap_alloc _ _ _ hsz2]; exact HZ.out.1
             · exact Below.grown (HZ.out.2.alloc (by omega) _) hgrow3 (by simp; omega) (fun j hj => by have := (hown2.lt _ hj).1; omega))
           clear hown' hgrow3 hnil3 hat3))
      go_roundw
      case rel => exact ⟨seen.push e.born, l ++ [(s, z)], X.out.2.1, by rw [flatG_snoc, List.length_append]; exact X.out.1, Lib.hid X.out.2.2, HP, by rw [List.length_append]; have := HX.out.2; have := HY.out.2; simp; omega⟩
      case measure =>
        rw [seen_at X.out.2.1, seen_at HX.out.1]
        exact HY.out.1
end Go.Proofs.Ytkbbpjknakajeaa
